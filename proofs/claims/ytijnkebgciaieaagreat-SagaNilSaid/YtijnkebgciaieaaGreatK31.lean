import Derived.Test.YtijnkebgciaieaaGreatK30
namespace Go.Proofs.YtijnkebgciaieaaGreat.MX
open Go Go.Proofs
set_option linter.unusedSimpArgs false
set_option linter.unusedVariables false
section
set_option maxHeartbeats 8000000
def nextR (st by_ : Int) : Value := match nextV st by_ with
 | some x => .tuple #[.int .i64 x, .int .i64 0]
 | none => .tuple #[.int .i64 0, .int .i64 8]
theorem Next_ok (st by_ : Int) (h : Heap) : CallsH Tryz.prog 68 [.int .i64 st, .int .i64 by_] h fun v h' => v = nextR st by_ ∧ h' = h := by
 have hs : st = 1 ∨ st = 2 ∨ st = 3 ∨ st = 4 ∨ st = 5 ∨ (¬ st = 1 ∧ ¬ st = 2 ∧ ¬ st = 3 ∧ ¬ st = 4 ∧ ¬ st = 5) := by omega
 have hb : by_ = 1 ∨ by_ = 2 ∨ by_ = 3 ∨ by_ = 4 ∨ by_ = 5 ∨ by_ = 6 ∨ by_ = 7 ∨ by_ = 8 ∨ by_ = 9 ∨ (¬ by_ = 1 ∧ ¬ by_ = 2 ∧ ¬ by_ = 3 ∧ ¬ by_ = 4 ∧ ¬ by_ = 5 ∧ ¬ by_ = 6 ∧ ¬ by_ = 7 ∧ ¬ by_ = 8 ∧ ¬ by_ = 9) := by omega
 rcases hs with rfl | rfl | rfl | rfl | rfl | ⟨s1, s2, s3, s4, s5⟩ <;> rcases hb with rfl | rfl | rfl | rfl | rfl | rfl | rfl | rfl | rfl | ⟨b1, b2, b3, b4, b5, b6, b7, b8, b9⟩ <;>
 ((refine eK c_rma_Next (l_a rfl) fun K hK => ?_; (try simp (disch := first|omega|assumption|exact l_a rfl) only [go_sem, ↓wBk, simprocAttr, ir_rma_Next])); (try simp (disch := first|omega|assumption|exact l_a rfl) only [go_sem, ↓wBk, simprocAttr]); exact hK _ _ ⟨by first | rfl | simp [nextR, nextV, *], rfl⟩)
theorem CRight_ok (a : Int) (h : Heap) : CallsH Tryz.prog 167 [.int .i64 a] h fun v h' => v = .bool (dcd (okC a)) ∧ h' = h := by
 by_cases h1 : -1125899906842624 ≤ a
 ·by_cases h2 : a ≤ 1125899906842624
  ·(refine eK c_cents_Right (l_a rfl) fun K hK => ?_; (try simp (disch := first|omega|assumption|exact l_a rfl) only [go_sem, ↓wBk, simprocAttr, ir_cents_Right]))
   (try simp (disch := first|omega|assumption|exact l_a rfl) only [go_sem, ↓wBk, simprocAttr, h1, h2])
   exact hK _ _ ⟨by rw [dT ⟨h1, h2⟩], rfl⟩
  ·(refine eK c_cents_Right (l_a rfl) fun K hK => ?_; (try simp (disch := first|omega|assumption|exact l_a rfl) only [go_sem, ↓wBk, simprocAttr, ir_cents_Right]))
   (try simp (disch := first|omega|assumption|exact l_a rfl) only [go_sem, ↓wBk, simprocAttr, h1, h2])
   exact hK _ _ ⟨by rw [dF fun h => h2 h.2], rfl⟩
 ·(refine eK c_cents_Right (l_a rfl) fun K hK => ?_; (try simp (disch := first|omega|assumption|exact l_a rfl) only [go_sem, ↓wBk, simprocAttr, ir_cents_Right]))
  (try simp (disch := first|omega|assumption|exact l_a rfl) only [go_sem, ↓wBk, simprocAttr, h1])
  exact hK _ _ ⟨by rw [dF fun h => h1 h.1], rfl⟩
def toldV (a : Int) : Value := if okC a then .tuple #[.int .i64 a, .int .i64 0] else .tuple #[.int .i64 0, .int .i64 9]
theorem told_okC (a : Int) (h : Heap) : CallsH Tryz.prog 168 [.int .i64 a] h fun v h' => v = toldV a ∧ h' = h := by
 (refine eK c_cents_told (l_a rfl) fun K hK => ?_; (try simp (disch := first|omega|assumption|exact l_a rfl) only [go_sem, ↓wBk, simprocAttr, ir_cents_told]))
 refine cI (CRight_ok a _) ?_
 rintro _ _ ⟨rfl, rfl⟩
 by_cases h1 : okC a
 ·rw [dT h1]
  (try simp (disch := first|omega|assumption|exact l_a rfl) only [go_sem, ↓wBk, simprocAttr])
  exact hK _ _ ⟨by rw [toldV, if_pos h1], rfl⟩
 ·rw [dF h1]
  (try simp (disch := first|omega|assumption|exact l_a rfl) only [go_sem, ↓wBk, simprocAttr])
  exact hK _ _ ⟨by rw [toldV, if_neg h1], rfl⟩
def sumV (a b c : Int) : Value := if okC a ∧ okC b ∧ okC c then .tuple #[.int .i64 c, .int .i64 0] else .tuple #[.int .i64 0, .int .i64 9]
theorem CAdd_ok (a b : Int) (h : Heap) : CallsH Tryz.prog 162 [.int .i64 a, .int .i64 b] h fun v h' => v = sumV a b (a + b) ∧ h' = h := by
 (refine eK c_cents_Add (l_a rfl) fun K hK => ?_; (try simp (disch := first|omega|assumption|exact l_a rfl) only [go_sem, ↓wBk, simprocAttr, ir_cents_Add]))
 refine cI (CRight_ok a _) ?_
 rintro _ _ ⟨rfl, rfl⟩
 by_cases h1 : okC a
 case neg =>
  rw [dF h1]
  (try simp (disch := first|omega|assumption|exact l_a rfl) only [go_sem, ↓wBk, simprocAttr])
  exact hK _ _ ⟨by rw [sumV, if_neg fun h => h1 h.1], rfl⟩
 rw [dT h1]
 (try simp (disch := first|omega|assumption|exact l_a rfl) only [go_sem, ↓wBk, simprocAttr])
 refine cI (CRight_ok b _) ?_
 rintro _ _ ⟨rfl, rfl⟩
 by_cases h2 : okC b
 case neg =>
  rw [dF h2]
  (try simp (disch := first|omega|assumption|exact l_a rfl) only [go_sem, ↓wBk, simprocAttr])
  exact hK _ _ ⟨by rw [sumV, if_neg fun h => h2 h.2.1], rfl⟩
 rw [dT h2]
 obtain ⟨_, _⟩ := id h1
 obtain ⟨_, _⟩ := id h2
 (try simp (disch := first|omega|assumption|exact l_a rfl) only [go_sem, ↓wBk, simprocAttr])
 refine cI (told_okC _ _) ?_
 rintro _ _ ⟨rfl, rfl⟩
 by_cases h3 : okC (a + b)
 ·rw [toldV, if_pos h3]
  (try simp (disch := first|omega|assumption|exact l_a rfl) only [go_sem, ↓wBk, simprocAttr])
  exact hK _ _ ⟨by rw [sumV, if_pos ⟨h1, h2, h3⟩], rfl⟩
 ·rw [toldV, if_neg h3]
  (try simp (disch := first|omega|assumption|exact l_a rfl) only [go_sem, ↓wBk, simprocAttr])
  exact hK _ _ ⟨by rw [sumV, if_neg fun h => h3 h.2.2], rfl⟩
theorem CSub_ok (a b : Int) (h : Heap) : CallsH Tryz.prog 161 [.int .i64 a, .int .i64 b] h fun v h' => v = sumV a b (a - b) ∧ h' = h := by
 (refine eK c_cents_Sub (l_a rfl) fun K hK => ?_; (try simp (disch := first|omega|assumption|exact l_a rfl) only [go_sem, ↓wBk, simprocAttr, ir_cents_Sub]))
 refine cI (CRight_ok a _) ?_
 rintro _ _ ⟨rfl, rfl⟩
 by_cases h1 : okC a
 case neg =>
  rw [dF h1]
  (try simp (disch := first|omega|assumption|exact l_a rfl) only [go_sem, ↓wBk, simprocAttr])
  exact hK _ _ ⟨by rw [sumV, if_neg fun h => h1 h.1], rfl⟩
 rw [dT h1]
 (try simp (disch := first|omega|assumption|exact l_a rfl) only [go_sem, ↓wBk, simprocAttr])
 refine cI (CRight_ok b _) ?_
 rintro _ _ ⟨rfl, rfl⟩
 by_cases h2 : okC b
 case neg =>
  rw [dF h2]
  (try simp (disch := first|omega|assumption|exact l_a rfl) only [go_sem, ↓wBk, simprocAttr])
  exact hK _ _ ⟨by rw [sumV, if_neg fun h => h2 h.2.1], rfl⟩
 rw [dT h2]
 obtain ⟨_, _⟩ := id h1
 obtain ⟨_, _⟩ := id h2
 (try simp (disch := first|omega|assumption|exact l_a rfl) only [go_sem, ↓wBk, simprocAttr])
 refine cI (told_okC _ _) ?_
 rintro _ _ ⟨rfl, rfl⟩
 by_cases h3 : okC (a - b)
 ·rw [toldV, if_pos h3]
  (try simp (disch := first|omega|assumption|exact l_a rfl) only [go_sem, ↓wBk, simprocAttr])
  exact hK _ _ ⟨by rw [sumV, if_pos ⟨h1, h2, h3⟩], rfl⟩
 ·rw [toldV, if_neg h3]
  (try simp (disch := first|omega|assumption|exact l_a rfl) only [go_sem, ↓wBk, simprocAttr])
  exact hK _ _ ⟨by rw [sumV, if_neg fun h => h3 h.2.2], rfl⟩
theorem isL_ok (n : Int) (h : Heap) (hn : 0 ≤ n ∧ n < 5) : CallsH Tryz.prog 160 [.int .i64 n] h fun v h' => v = .bool true ∧ h' = h := by
 obtain ⟨h1, h2⟩ := hn
 (refine eK c_ledger_is (l_a rfl) fun K hK => ?_; (try simp (disch := first|omega|assumption|exact l_a rfl) only [go_sem, ↓wBk, simprocAttr, ir_ledger_is]))
 (try simp (disch := first|omega|assumption|exact l_a rfl) only [go_sem, ↓wBk, simprocAttr])
 exact hK _ _ ⟨rfl, rfl⟩
def Led.enc (x : Led) : List Value := [.int .i64 x.a, .int .i64 x.b, .int .i64 x.c, .int .i64 x.d, .int .i64 x.e]
def Led.zero : Led := ⟨0, 0, 0, 0, 0⟩
def postR (l : Led) (a b sum : Int) : Value := match postP l a b sum with
 | .ok l' => .tuple #[.agg l'.enc.toArray, .int .i64 0]
 | .error e => .tuple #[.agg Led.zero.enc.toArray, .int .i64 e]
theorem Post_ok (x : Led) (a b sum : Int) (hab : a = 0 ∧ b = 1 ∨ a = 1 ∧ b = 2 ∨ a = 1 ∧ b = 3 ∨ a = 1 ∧ b = 4) (h : Heap) : CallsH Tryz.prog 151 [.agg x.enc.toArray, .int .i64 a, .int .i64 b, .int .i64 sum] h fun v h' => v = postR x a b sum ∧ Fr h h' [] := by
 have hdef : postP x a b sum = if sum < 0 then .error 1 else if okC (x.get a) ∧ okC (x.get b) ∧ okC sum ∧ okC (x.get a - sum) ∧ okC (x.get b + sum) then .ok ((x.put a (x.get a - sum)).put b (x.get b + sum)) else .error 9 := rfl
 have S := St.nil h
 by_cases hs : sum < 0
 ·rw [if_pos hs] at hdef
  rw [postR, hdef]
  rcases hab with ⟨rfl, rfl⟩ | ⟨rfl, rfl⟩ | ⟨rfl, rfl⟩ | ⟨rfl, rfl⟩ <;> (
   (refine eK c_ledger_Post (l_a rfl) fun K hK => ?_; (try simp (disch := first|omega|assumption|exact l_a rfl) only [go_sem, ↓wBk, simprocAttr, ir_ledger_Post]))
   (refine tA S ?_; clear S; intro q h S; (try simp only [sC, sN, l_h, l_i, Nat.zero_add, Nat.reduceAdd, l_j, l_k] at S); ((try clear F); have F := S.all; (try simp only [aC, aN, yC, and_true] at F)))
   (try simp (disch := first|omega|assumption|exact l_a rfl) only [go_sem, ↓wBk, simprocAttr, Led.enc])
   (refine tA S ?_; clear S; intro g h S; (try simp only [sC, sN, l_h, l_i, Nat.zero_add, Nat.reduceAdd, l_j, l_k] at S); ((try clear F); have F := S.all; (try simp only [aC, aN, yC, and_true] at F)))
   (try simp (disch := first|omega|assumption|exact l_a rfl) only [go_sem, ↓wBk, simprocAttr])
   refine cI (isL_ok _ _ ⟨by decide, by decide⟩) ?_
   rintro _ _ ⟨rfl, rfl⟩
   (try simp (disch := first|omega|assumption|exact l_a rfl) only [go_sem, ↓wBk, simprocAttr])
   refine cI (isL_ok _ _ ⟨by decide, by decide⟩) ?_
   rintro _ _ ⟨rfl, rfl⟩
   (try simp (disch := first|omega|assumption|exact l_a rfl) only [go_sem, ↓wBk, simprocAttr])
   (refine tS (by first | exact S | exact S.p1 | exact S.p2 | exact S.p3 | exact S.p4 | exact S.p5 | exact S.p6 | exact S.p7 | exact S.p8 | exact S.p9 | exact S.p10 | exact S.p11) (by rfl) (by rfl) (l_a rfl) ?_; clear S; intro h S; (try simp only [sC, sN, l_h, l_i, Nat.zero_add, Nat.reduceAdd, l_j, l_k] at S); ((try clear F); have F := S.all; (try simp only [aC, aN, yC, and_true] at F)))
   (try simp (disch := first|omega|assumption|exact l_a rfl) only [go_sem, ↓wBk, simprocAttr, F])
   exact hK _ _ ⟨rfl, S.fr⟩)
 rw [if_neg hs] at hdef
 by_cases hc : okC (x.get a) ∧ okC (x.get b) ∧ okC sum ∧ okC (x.get a - sum) ∧ okC (x.get b + sum)
 ·rw [if_pos hc] at hdef
  rw [postR, hdef]
  obtain ⟨c1, c2, c3, c4, c5⟩ := hc
  have v1 : sumV (x.get a) sum (x.get a - sum) = .tuple #[.int .i64 (x.get a - sum), .int .i64 0] := by rw [sumV, if_pos ⟨c1, c3, c4⟩]
  have v2 : sumV (x.get b) sum (x.get b + sum) = .tuple #[.int .i64 (x.get b + sum), .int .i64 0] := by rw [sumV, if_pos ⟨c2, c3, c5⟩]
  rcases hab with ⟨rfl, rfl⟩ | ⟨rfl, rfl⟩ | ⟨rfl, rfl⟩ | ⟨rfl, rfl⟩ <;> (
   (refine eK c_ledger_Post (l_a rfl) fun K hK => ?_; (try simp (disch := first|omega|assumption|exact l_a rfl) only [go_sem, ↓wBk, simprocAttr, ir_ledger_Post]))
   (refine tA S ?_; clear S; intro q h S; (try simp only [sC, sN, l_h, l_i, Nat.zero_add, Nat.reduceAdd, l_j, l_k] at S); ((try clear F); have F := S.all; (try simp only [aC, aN, yC, and_true] at F)))
   (try simp (disch := first|omega|assumption|exact l_a rfl) only [go_sem, ↓wBk, simprocAttr, Led.enc])
   (refine tA S ?_; clear S; intro g h S; (try simp only [sC, sN, l_h, l_i, Nat.zero_add, Nat.reduceAdd, l_j, l_k] at S); ((try clear F); have F := S.all; (try simp only [aC, aN, yC, and_true] at F)))
   (try simp (disch := first|omega|assumption|exact l_a rfl) only [go_sem, ↓wBk, simprocAttr])
   refine cI (isL_ok _ _ ⟨by decide, by decide⟩) ?_
   rintro _ _ ⟨rfl, rfl⟩
   (try simp (disch := first|omega|assumption|exact l_a rfl) only [go_sem, ↓wBk, simprocAttr])
   refine cI (isL_ok _ _ ⟨by decide, by decide⟩) ?_
   rintro _ _ ⟨rfl, rfl⟩
   (try simp (disch := first|omega|assumption|exact l_a rfl) only [go_sem, ↓wBk, simprocAttr, F, Led.enc])
   refine cI (CSub_ok _ _ _) ?_
   rintro _ _ ⟨e1, rfl⟩
   rw [e1.trans v1]
   (try simp (disch := first|omega|assumption|exact l_a rfl) only [go_sem, ↓wBk, simprocAttr, F, Led.enc])
   refine cI (CAdd_ok _ _ _) ?_
   rintro _ _ ⟨e2, rfl⟩
   rw [e2.trans v2]
   (try simp (disch := first|omega|assumption|exact l_a rfl) only [go_sem, ↓wBk, simprocAttr])
   refine tS S.p1 rfl rfl (l_a rfl) ?_
   clear S F
   intro h S
   rw [Led.enc] at S
   (try simp only [sC, sN, l_h, l_i, Nat.zero_add, Nat.reduceAdd, l_j, l_k] at S)
   (try simp (disch := first|omega|assumption|exact l_a rfl) only [go_sem, ↓wBk, simprocAttr])
   refine tS S rfl rfl (l_a rfl) ?_
   clear S
   intro h S
   (try simp only [sC, sN, l_h, l_i, Nat.zero_add, Nat.reduceAdd, l_j, l_k] at S)
   ((try clear F); have F := S.all; (try simp only [aC, aN, yC, and_true] at F))
   (try simp (disch := first|omega|assumption|exact l_a rfl) only [go_sem, ↓wBk, simprocAttr, F])
   refine tS S.p1 rfl rfl (l_a rfl) ?_
   clear S F
   intro h S
   (try simp only [sC, sN, l_h, l_i, Nat.zero_add, Nat.reduceAdd, l_j, l_k] at S)
   ((try clear F); have F := S.all; (try simp only [aC, aN, yC, and_true] at F))
   (try simp (disch := first|omega|assumption|exact l_a rfl) only [go_sem, ↓wBk, simprocAttr, F])
   exact hK _ _ ⟨rfl, S.fr⟩)
 rw [if_neg hc] at hdef
 rw [postR, hdef]
 by_cases d1 : okC (x.get a) ∧ okC sum ∧ okC (x.get a - sum)
 ·have d2 : ¬ (okC (x.get b) ∧ okC sum ∧ okC (x.get b + sum)) := fun h => hc ⟨d1.1, h.1, d1.2.1, d1.2.2, h.2.2⟩
  have v1 : sumV (x.get a) sum (x.get a - sum) = .tuple #[.int .i64 (x.get a - sum), .int .i64 0] := by rw [sumV, if_pos d1]
  have v2 : sumV (x.get b) sum (x.get b + sum) = .tuple #[.int .i64 0, .int .i64 9] := by rw [sumV, if_neg d2]
  rcases hab with ⟨rfl, rfl⟩ | ⟨rfl, rfl⟩ | ⟨rfl, rfl⟩ | ⟨rfl, rfl⟩ <;> (
   (refine eK c_ledger_Post (l_a rfl) fun K hK => ?_; (try simp (disch := first|omega|assumption|exact l_a rfl) only [go_sem, ↓wBk, simprocAttr, ir_ledger_Post]))
   (refine tA S ?_; clear S; intro q h S; (try simp only [sC, sN, l_h, l_i, Nat.zero_add, Nat.reduceAdd, l_j, l_k] at S); ((try clear F); have F := S.all; (try simp only [aC, aN, yC, and_true] at F)))
   (try simp (disch := first|omega|assumption|exact l_a rfl) only [go_sem, ↓wBk, simprocAttr, Led.enc])
   (refine tA S ?_; clear S; intro g h S; (try simp only [sC, sN, l_h, l_i, Nat.zero_add, Nat.reduceAdd, l_j, l_k] at S); ((try clear F); have F := S.all; (try simp only [aC, aN, yC, and_true] at F)))
   (try simp (disch := first|omega|assumption|exact l_a rfl) only [go_sem, ↓wBk, simprocAttr])
   refine cI (isL_ok _ _ ⟨by decide, by decide⟩) ?_
   rintro _ _ ⟨rfl, rfl⟩
   (try simp (disch := first|omega|assumption|exact l_a rfl) only [go_sem, ↓wBk, simprocAttr])
   refine cI (isL_ok _ _ ⟨by decide, by decide⟩) ?_
   rintro _ _ ⟨rfl, rfl⟩
   (try simp (disch := first|omega|assumption|exact l_a rfl) only [go_sem, ↓wBk, simprocAttr, F, Led.enc])
   refine cI (CSub_ok _ _ _) ?_
   rintro _ _ ⟨e1, rfl⟩
   rw [e1.trans v1]
   (try simp (disch := first|omega|assumption|exact l_a rfl) only [go_sem, ↓wBk, simprocAttr, F, Led.enc])
   refine cI (CAdd_ok _ _ _) ?_
   rintro _ _ ⟨e2, rfl⟩
   rw [e2.trans v2]
   (try simp (disch := first|omega|assumption|exact l_a rfl) only [go_sem, ↓wBk, simprocAttr])
   (refine tS (by first | exact S | exact S.p1 | exact S.p2 | exact S.p3 | exact S.p4 | exact S.p5 | exact S.p6 | exact S.p7 | exact S.p8 | exact S.p9 | exact S.p10 | exact S.p11) (by rfl) (by rfl) (l_a rfl) ?_; clear S; intro h S; (try simp only [sC, sN, l_h, l_i, Nat.zero_add, Nat.reduceAdd, l_j, l_k] at S); ((try clear F); have F := S.all; (try simp only [aC, aN, yC, and_true] at F)))
   (try simp (disch := first|omega|assumption|exact l_a rfl) only [go_sem, ↓wBk, simprocAttr, F])
   exact hK _ _ ⟨rfl, S.fr⟩)
 ·have v1 : sumV (x.get a) sum (x.get a - sum) = .tuple #[.int .i64 0, .int .i64 9] := by rw [sumV, if_neg d1]
  have v2 : ∃ n e, sumV (x.get b) sum (x.get b + sum) = .tuple #[.int .i64 n, .int .i64 e] := by
   rw [sumV]; split <;> exact ⟨_, _, rfl⟩
  obtain ⟨n, e, v2⟩ := v2
  rcases hab with ⟨rfl, rfl⟩ | ⟨rfl, rfl⟩ | ⟨rfl, rfl⟩ | ⟨rfl, rfl⟩ <;> (
   (refine eK c_ledger_Post (l_a rfl) fun K hK => ?_; (try simp (disch := first|omega|assumption|exact l_a rfl) only [go_sem, ↓wBk, simprocAttr, ir_ledger_Post]))
   (refine tA S ?_; clear S; intro q h S; (try simp only [sC, sN, l_h, l_i, Nat.zero_add, Nat.reduceAdd, l_j, l_k] at S); ((try clear F); have F := S.all; (try simp only [aC, aN, yC, and_true] at F)))
   (try simp (disch := first|omega|assumption|exact l_a rfl) only [go_sem, ↓wBk, simprocAttr, Led.enc])
   (refine tA S ?_; clear S; intro g h S; (try simp only [sC, sN, l_h, l_i, Nat.zero_add, Nat.reduceAdd, l_j, l_k] at S); ((try clear F); have F := S.all; (try simp only [aC, aN, yC, and_true] at F)))
   (try simp (disch := first|omega|assumption|exact l_a rfl) only [go_sem, ↓wBk, simprocAttr])
   refine cI (isL_ok _ _ ⟨by decide, by decide⟩) ?_
   rintro _ _ ⟨rfl, rfl⟩
   (try simp (disch := first|omega|assumption|exact l_a rfl) only [go_sem, ↓wBk, simprocAttr])
   refine cI (isL_ok _ _ ⟨by decide, by decide⟩) ?_
   rintro _ _ ⟨rfl, rfl⟩
   (try simp (disch := first|omega|assumption|exact l_a rfl) only [go_sem, ↓wBk, simprocAttr, F, Led.enc])
   refine cI (CSub_ok _ _ _) ?_
   rintro _ _ ⟨e1, rfl⟩
   rw [e1.trans v1]
   (try simp (disch := first|omega|assumption|exact l_a rfl) only [go_sem, ↓wBk, simprocAttr, F, Led.enc])
   refine cI (CAdd_ok _ _ _) ?_
   rintro _ _ ⟨e2, rfl⟩
   rw [e2.trans v2]
   (try simp (disch := first|omega|assumption|exact l_a rfl) only [go_sem, ↓wBk, simprocAttr])
   (refine tS (by first | exact S | exact S.p1 | exact S.p2 | exact S.p3 | exact S.p4 | exact S.p5 | exact S.p6 | exact S.p7 | exact S.p8 | exact S.p9 | exact S.p10 | exact S.p11) (by rfl) (by rfl) (l_a rfl) ?_; clear S; intro h S; (try simp only [sC, sN, l_h, l_i, Nat.zero_add, Nat.reduceAdd, l_j, l_k] at S); ((try clear F); have F := S.all; (try simp only [aC, aN, yC, and_true] at F)))
   (try simp (disch := first|omega|assumption|exact l_a rfl) only [go_sem, ↓wBk, simprocAttr, F])
   exact hK _ _ ⟨rfl, S.fr⟩)
end
section
set_option maxHeartbeats 8000000
def resE (h0 : Heap) (L : Loc) (D : Cfg) (u : Value) (l : List HP) (x : Except Int Wk) (v : Value) (h' : Heap) : Prop := match x with
 | .error e => e ≠ 0 ∧ v = .int .i64 e ∧ St h0 h' l
 | .ok w' => v = .int .i64 0 ∧ St h0 h' (wkA L D u w' :: l)
section
variable {h0 h : Heap} {l : List HP} {L : Loc} {D : Cfg} {u : Value} {w : Wk} {U : List Unt} {m b i : Nat}
theorem of_ok (num : Int) (S : St h0 h (wkA L D u w :: l)) (W : w.wf U m) : CallsH Tryz.prog 67 [.pointer (some ⟨L.p, 0, none⟩), .int .i64 num] h fun v h' => h' = h ∧
  ((w.s.at_ num = none ∧ v = .tuple #[.pointer none, .int .i64 7]) ∨ ∃ (i b : Nat), num = (i : Int) + 1 ∧ (num - 1).toNat = i ∧ i < w.s.R.length ∧ w.s.at_ num = some (w.R i) ∧ L.A = some ⟨b, 0, none⟩ ∧ v = .tuple #[.pointer (some ⟨b, i * 14, none⟩), .int .i64 0]) := by
 have hrl := W.rl
 obtain ⟨sd, vs, hv, S1⟩ := St.wk.1 S
 have hl : vs.length = w.s.R.length := by rw [← hv, l_z]
 have F := S1.all
 simp only [aC, aN, yC, and_true] at F
 by_cases h1 : num < 1
 ·(refine eK c_saga_Saga_of (l_a rfl) fun K hK => ?_; (try simp (disch := first|omega|assumption|exact l_a rfl) only [go_sem, ↓wBk, simprocAttr, ir_saga_Saga_of]))
  (try simp (disch := first|omega|assumption|exact l_a rfl) only [go_sem, ↓wBk, simprocAttr])
  refine hK _ _ ⟨rfl, .inl ⟨?_, rfl⟩⟩
  rw [Sag.at_, if_neg (by omega)]
 by_cases h2 : (w.s.R.length : Int) < num
 ·(refine eK c_saga_Saga_of (l_a rfl) fun K hK => ?_; (try simp (disch := first|omega|assumption|exact l_a rfl) only [go_sem, ↓wBk, simprocAttr, ir_saga_Saga_of]))
  (try simp (disch := first|omega|assumption|exact l_a rfl) only [go_sem, ↓wBk, simprocAttr, F, sagE])
  refine hK _ _ ⟨rfl, .inl ⟨?_, rfl⟩⟩
  rw [Sag.at_, if_pos (by omega), List.getElem?_eq_none (by omega)]
 obtain ⟨i, hi⟩ : ∃ i : Nat, num = (i : Int) + 1 := ⟨(num - 1).toNat, by omega⟩
 subst hi
 have hil : i < w.s.R.length := by omega
 have S4 := S1.p4
 obtain ⟨b, hb⟩ := S4.ownAt (by omega)
 have e1 : (i : Int) + 1 - 1 = (i : Int) := by omega
 (refine eK c_saga_Saga_of (l_a rfl) fun K hK => ?_; (try simp (disch := first|omega|assumption|exact l_a rfl) only [go_sem, ↓wBk, simprocAttr, ir_saga_Saga_of]))
 (try simp (disch := first|omega|assumption|exact l_a rfl) only [go_sem, ↓wBk, simprocAttr, F, sagE, hb, e1])
 refine hK _ _ ⟨rfl, .inr ⟨i, b, rfl, by omega, hil, ?_, hb, rfl⟩⟩
 rw [Sag.at_, if_pos (by omega), e1, l_ap, Wk.R, l_s, l_r hil]
 rfl
theorem say_ok (kind num value : Int) (S : St h0 h (wkA L D u w :: l)) (W : w.wf U m) (hm : m < 500000) : CallsH Tryz.prog 66 [.pointer (some ⟨L.p, 0, none⟩), .int .i64 kind, .int .i64 num, .int .i64 value] h fun v h' => St h0 h' (wkA L D u (sayP w kind num value) :: l) := by
 have hkey := W.key
 have hnow := W.now
 have hol := W.ol
 have hsl := W.sl
 obtain ⟨sd, vs, hv, S⟩ := St.wk.1 S
 obtain ⟨A, c, rfl⟩ := S.p5.sl
 obtain ⟨cs, hcs⟩ : ∃ cs, cs = sagE D u L.k L.t L.o (.slice L.A w.s.R.length L.c) (.slice A w.sd.length c) w.s := ⟨_, rfl⟩
 have hb := S.blk
 rw [← hcs] at hb
 have r14 : ∀ K t, readT (fun h' => blk h' L.p = some (cs, 64, (0, 0))) (fun h' => rd1 h' (.pointer (some ⟨L.p, 14, none⟩))) K t = K (.slice A w.sd.length c) := fun K t => rI (fun h' hh => by rw [rd1_blk hh, hcs]; rfl) h hb
 have r12 : ∀ K t, readT (fun h' => blk h' L.p = some (cs, 64, (0, 0))) (fun h' => rd1 h' (.pointer (some ⟨L.p, 12, none⟩))) K t = K (.pointer (some ⟨L.o, 0, none⟩)) := fun K t => rI (fun h' hh => by rw [rd1_blk hh, hcs]; rfl) h hb
 have r13 : ∀ K t, readT (fun h' => blk h' L.p = some (cs, 64, (0, 0))) (fun h' => rd1 h' (.pointer (some ⟨L.p, 13, none⟩))) K t = K (.int .i64 w.s.now) := fun K t => rI (fun h' hh => by rw [rd1_blk hh, hcs]; rfl) h hb
 (refine eK c_saga_Saga_say (l_a rfl) fun K hK => ?_; (try simp (disch := first|omega|assumption|exact l_a rfl) only [go_sem, ↓wBk, simprocAttr, ir_saga_Saga_say]))
 refine dI (fun h' => blk h' L.p = some (cs, 64, (0, 0))) hb ?_
 (try simp (disch := first|omega|assumption|exact l_a rfl) only [go_sem, ↓wBk, simprocAttr, r14, r12, r13])
 refine cI (PutO_ok kind num value w.s.now S.p3 ⟨by omega, by omega⟩ ⟨by omega, by omega⟩ (by omega)) ?_
 clear S r14 r12 r13 hb
 rintro _ h ⟨rfl, S⟩
 refine ⟨by rw [hcs]; exact S.p1.blk, ?_⟩
 (try simp (disch := first|omega|assumption|exact l_a rfl) only [go_sem, ↓wBk, simprocAttr, Msg.enc])
 (refine tA S ?_; clear S; intro q h S; (try simp only [sC, sN, l_h, l_i, Nat.zero_add, Nat.reduceAdd, l_j, l_k] at S); ((try clear F); have F := S.all; (try simp only [aC, aN, yC, and_true] at F)))
 refine ⟨by rw [hcs]; exact S.p2.blk, ?_⟩
 (try simp (disch := first|omega|assumption|exact l_a rfl) only [go_sem, ↓wBk, simprocAttr])
 refine tA1 (bytes := 48) (x := (⟨w.s.key, kind, num, value, 1, w.s.now + 1⟩ : Msg)) enc_len (by omega) enc_plain rfl rfl S.p6.p1 (by omega) (by omega) ?_
 clear S F
 intro v h S
 obtain ⟨A', c', rfl⟩ := S.sl
 (try simp (disch := first|omega|assumption|exact l_a rfl) only [go_sem, ↓wBk, simprocAttr])
 refine tS S.p2 rfl rfl (l_a rfl) ?_
 clear S
 intro h S
 rw [sagE] at S
 (try simp only [sC, sN, l_h, l_i, Nat.zero_add, Nat.reduceAdd, l_j, l_k] at S)
 (try simp (disch := first|omega|assumption|exact l_a rfl) only [go_sem, ↓wBk, simprocAttr])
 refine hK _ _ ?_
 have S : St h0 h (cellA L.p (sagE D u L.k L.t L.o (.slice L.A (sayP w kind num value).s.R.length L.c) (.slice A' (w.sd ++ [(⟨w.s.key, kind, num, value, 1, w.s.now + 1⟩ : Msg)]).length c') (sayP w kind num value).s) 64 :: ownA Msg.enc 6 110 (.slice A' (w.sd ++ [(⟨w.s.key, kind, num, value, 1, w.s.now + 1⟩ : Msg)]).length c') (sayP w kind num value).sd :: obxA L.o (sayP w kind num value).s.key (sayP w kind num value).s.O :: stockA L.k (sayP w kind num value).s.K :: timA L.t (sayP w kind num value).s.T :: ownA RetV.enc 14 66 (.slice L.A (sayP w kind num value).s.R.length L.c) vs :: (vs.map retRow ++ l)) := S
 exact St.wk.2 ⟨_, vs, hv, by (refine St.perm S ?_; repeat (with_reducible first | exact List.Perm.refl _ | refine pm0 ?_ | refine pm1 ?_ | refine pm2 ?_ | refine pm3 ?_ | refine pm4 ?_ | refine pm5 ?_ | refine pm6 ?_ | refine pm7 ?_ | refine pm8 ?_ | refine pm9 ?_ | refine pm10 ?_ | refine pm11 ?_ | refine pm12 ?_)) ⟩
theorem release_ok (S : St h0 h (wkA L D u w :: l)) (W : w.wf U m) (hU : U.length ≤ 200) (hA : L.A = some ⟨b, 0, none⟩) (hi : i < w.s.R.length) : CallsH Tryz.prog 69 [.pointer (some ⟨L.p, 0, none⟩), .pointer (some ⟨b, i * 14, none⟩)] h fun v h' => St h0 h' (wkA L D u (releaseP w i) :: l) := by
 have hrl := W.rl
 obtain ⟨x, hx, hrd, _, _, _⟩ := S.wkRet hA hi
 have q4 := hrd 4 (by omega)
 simp only [RetV.enc, l_o, l_p, hx] at q4
 by_cases h1 : 0 ≤ (w.R i).res
 case neg =>
  have e : releaseP w i = w := if_neg h1
  rw [e]
  (refine eK c_saga_Saga_release (l_a rfl) fun K hK => ?_; (try simp (disch := first|omega|assumption|exact l_a rfl) only [go_sem, ↓wBk, simprocAttr, ir_saga_Saga_release]))
  (try simp (disch := first|omega|assumption|exact l_a rfl) only [go_sem, ↓wBk, simprocAttr, q4])
  exact hK _ _ S
 have e : releaseP w i = (w.mv (w.R i).res 3).put i { w.R i with res := -1 } := if_pos h1
 rw [e]
 obtain ⟨sd, M, Sc, _⟩ := S.wkCell
 have F := Sc.all
 simp only [aC, aN, yC, and_true] at F
 (refine eK c_saga_Saga_release (l_a rfl) fun K hK => ?_; (try simp (disch := first|omega|assumption|exact l_a rfl) only [go_sem, ↓wBk, simprocAttr, ir_saga_Saga_release]))
 (try simp (disch := first|omega|assumption|exact l_a rfl) only [go_sem, ↓wBk, simprocAttr, q4])
 refine dE ?_
 (try simp (disch := first|omega|assumption|exact l_a rfl) only [go_sem, ↓wBk, simprocAttr, q4, F, sagE])
 clear F Sc
 obtain ⟨M', S1, back⟩ := S.wkStock
 have hkl := W.kl
 refine cI (Move_ok _ 3 S1 (by omega)) ?_
 clear S S1 hrd q4
 rintro _ h ⟨rfl, S1⟩
 have S : St h0 h (wkA L D u (w.mv (w.R i).res 3) :: l) := back _ _ S1
 clear S1 back
 (try simp (disch := first|omega|assumption|exact l_a rfl) only [go_sem, ↓wBk, simprocAttr])
 refine st_wkSet (r' := { w.R i with res := -1 }) S hA hi (j := 4) (by omega) rfl rfl rfl (fun x hx => by rw [RetV.enc, RetV.enc, hx]; rfl) ?_
 clear S
 intro h S
 (try simp (disch := first|omega|assumption|exact l_a rfl) only [go_sem, ↓wBk, simprocAttr])
 exact hK _ _ S
end
end
end Go.Proofs.YtijnkebgciaieaaGreat.MX
