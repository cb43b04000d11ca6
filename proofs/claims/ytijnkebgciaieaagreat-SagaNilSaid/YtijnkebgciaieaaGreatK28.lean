import Derived.Test.YtijnkebgciaieaaGreatK27
import Derived.Test.YtijnkebgciaieaaGreatK21
import Derived.Test.YtijnkebgciaieaaGreatK23
import Derived.Test.YtijnkebgciaieaaGreatK15
namespace Go.Proofs.YtijnkebgciaieaaGreat.MX
open Go Go.Proofs
set_option linter.unusedSimpArgs false
set_option linter.unusedVariables false
section
set_option maxHeartbeats 8000000
theorem rsums_ok (x : RetV) (h : Heap) : CallsH Tryz.prog 148 [.agg x.enc.toArray] h fun v h' => v = .bool (dcd (okMon x.r.worth ∧ okMon x.r.paid ∧ okMon x.r.credd ∧ okMon x.r.given)) ∧ Fr h h' [] := by
 have S := St.nil h
 have z4 : ∀ z : Value, zerosL [z] 4 = [z, z, z, z] := fun _ => rfl
 (refine eK c_rma_sums (l_a rfl) fun K hK => ?_; (try simp (disch := first|omega|assumption|exact l_a rfl) only [go_sem, ↓wBk, simprocAttr, ir_rma_sums]))
 (refine tA S ?_; clear S; intro b h S; (try simp only [sC, sN, l_h, l_i, Nat.zero_add, Nat.reduceAdd, l_j, l_k] at S); ((try clear F); have F := S.all; (try simp only [aC, aN, yC, and_true] at F)))
 (try simp (disch := first|omega|assumption|exact l_a rfl) only [go_sem, ↓wBk, simprocAttr, F, RetV.enc, z4])
 (refine tA S ?_; clear S; intro g h S; (try simp only [sC, sN, l_h, l_i, Nat.zero_add, Nat.reduceAdd, l_j, l_k] at S); ((try clear F); have F := S.all; (try simp only [aC, aN, yC, and_true] at F)))
 (try simp (disch := first|omega|assumption|exact l_a rfl) only [go_sem, ↓wBk, simprocAttr, F])
 by_cases a1 : x.r.worth < 0
 ·(refine loop_unroll 5 ?_); (try simp (disch := first|omega|assumption|exact l_a rfl) only [go_sem, ↓wBk, simprocAttr, F, a1]); exact hK _ _ ⟨by rw [dF fun h => by have := h.1.1; omega], S.fr⟩
 by_cases a2 : 1125899906842624 < x.r.worth
 ·(refine loop_unroll 5 ?_); (try simp (disch := first|omega|assumption|exact l_a rfl) only [go_sem, ↓wBk, simprocAttr, F, a1, a2]); exact hK _ _ ⟨by rw [dF fun h => by have := h.1.2; omega], S.fr⟩
 by_cases b1 : x.r.paid < 0
 ·(refine loop_unroll 5 ?_); (try simp (disch := first|omega|assumption|exact l_a rfl) only [go_sem, ↓wBk, simprocAttr, F, a1, a2, b1]); exact hK _ _ ⟨by rw [dF fun h => by have := h.2.1.1; omega], S.fr⟩
 by_cases b2 : 1125899906842624 < x.r.paid
 ·(refine loop_unroll 5 ?_); (try simp (disch := first|omega|assumption|exact l_a rfl) only [go_sem, ↓wBk, simprocAttr, F, a1, a2, b1, b2]); exact hK _ _ ⟨by rw [dF fun h => by have := h.2.1.2; omega], S.fr⟩
 by_cases c1 : x.r.credd < 0
 ·(refine loop_unroll 5 ?_); (try simp (disch := first|omega|assumption|exact l_a rfl) only [go_sem, ↓wBk, simprocAttr, F, a1, a2, b1, b2, c1]); exact hK _ _ ⟨by rw [dF fun h => by have := h.2.2.1.1; omega], S.fr⟩
 by_cases c2 : 1125899906842624 < x.r.credd
 ·(refine loop_unroll 5 ?_); (try simp (disch := first|omega|assumption|exact l_a rfl) only [go_sem, ↓wBk, simprocAttr, F, a1, a2, b1, b2, c1, c2]); exact hK _ _ ⟨by rw [dF fun h => by have := h.2.2.1.2; omega], S.fr⟩
 by_cases d1 : x.r.given < 0
 ·(refine loop_unroll 5 ?_); (try simp (disch := first|omega|assumption|exact l_a rfl) only [go_sem, ↓wBk, simprocAttr, F, a1, a2, b1, b2, c1, c2, d1]); exact hK _ _ ⟨by rw [dF fun h => by have := h.2.2.2.1; omega], S.fr⟩
 by_cases d2 : 1125899906842624 < x.r.given
 ·(refine loop_unroll 5 ?_); (try simp (disch := first|omega|assumption|exact l_a rfl) only [go_sem, ↓wBk, simprocAttr, F, a1, a2, b1, b2, c1, c2, d1, d2]); exact hK _ _ ⟨by rw [dF fun h => by have := h.2.2.2.2; omega], S.fr⟩
 (refine loop_unroll 5 ?_); (try simp (disch := first|omega|assumption|exact l_a rfl) only [go_sem, ↓wBk, simprocAttr, F, a1, a2, b1, b2, c1, c2, d1, d2])
 exact hK _ _ ⟨by rw [dT ⟨⟨by omega, by omega⟩, ⟨by omega, by omega⟩, ⟨by omega, by omega⟩, by omega, by omega⟩], S.fr⟩
end
section
set_option maxHeartbeats 8000000
theorem runits_ok {h0 : Heap} (x : RetV) (ha : Arr zEnc 1 h0 x.A x.r.us) (hb : Arr zEnc 1 h0 x.B x.r.gs) (l1 : x.r.us.length < 1000000) (l2 : x.r.gs.length < 1000000) :
  CallsH Tryz.prog 147 [.agg x.enc.toArray] h0 fun v h' => v = .bool (dcd (okUnits x.r.us x.r.gs)) ∧ Fr h0 h' [] := by
 have S := St.nil h0
 have ha' : ∀ {h' : Heap} {l : List HP}, St h0 h' l → Arr zEnc 1 h' x.A x.r.us := fun S => ha.fr S.fr (by simp)
 have hb' : ∀ {h' : Heap} {l : List HP}, St h0 h' l → Arr zEnc 1 h' x.B x.r.gs := fun S => hb.fr S.fr (by simp)
 (refine eK c_rma_units (l_a rfl) fun K hK => ?_; (try simp (disch := first|omega|assumption|exact l_a rfl) only [go_sem, ↓wBk, simprocAttr, ir_rma_units]))
 (refine tA S ?_; clear S; intro b h S; (try simp only [sC, sN, l_h, l_i, Nat.zero_add, Nat.reduceAdd, l_j, l_k] at S); ((try clear F); have F := S.all; (try simp only [aC, aN, yC, and_true] at F)))
 (try simp (disch := first|omega|assumption|exact l_a rfl) only [go_sem, ↓wBk, simprocAttr, F, RetV.enc])
 refine cI (between_ok _ _ _ _) ?_
 rintro _ _ ⟨rfl, rfl⟩
 by_cases n1 : btw x.r.us.length 1 200
 case neg =>
  rw [dF n1]
  (try simp (disch := first|omega|assumption|exact l_a rfl) only [go_sem, ↓wBk, simprocAttr])
  exact hK _ _ ⟨by rw [dF fun h => n1 h.1], S.fr⟩
 rw [dT n1]
 by_cases n2 : (x.r.gs.length : Int) = x.r.us.length
 case neg =>
  (try simp (disch := first|omega|assumption|exact l_a rfl) only [go_sem, ↓wBk, simprocAttr, F, RetV.enc, n2])
  exact hK _ _ ⟨by rw [dF fun h => by have := h.2.1; omega], S.fr⟩
 (try simp (disch := first|omega|assumption|exact l_a rfl) only [go_sem, ↓wBk, simprocAttr, F, RetV.enc, n2])
 refine lI (fun ρ h' => ρ 1 = .pointer (some ⟨b, 0, none⟩) ∧ ρ 20 = .slice x.A x.r.us.length x.c ∧ ρ 21 = .int .i64 x.r.us.length ∧ ∃ i : Nat, ρ 22 = .int .i64 i ∧ i ≤ x.r.us.length ∧ (∀ k, k < i → unitOk x.r.us x.r.gs k) ∧ St h0 h' [cellA b x.enc 66]) (fun ρ _ => x.r.us.length - (iv (ρ 22)).toNat) ?_ ?_
 ·(try simp (disch := first|omega|assumption|exact l_a rfl) only [go_sem, ↓wBk, simprocAttr])
  exact ⟨0, rfl, by omega, fun k hk => absurd hk (by omega), S⟩
 clear S F
 rintro ρ h J hJ ⟨e1, e20, e21, i, e22, hi, hok, S⟩
 (try simp (disch := first|omega|assumption|exact l_a rfl) only [go_sem, ↓wBk, simprocAttr, e21, e22])
 refine cD (fun hlt => ?_) (fun hlt => ?_)
 ·have hil : i < x.r.us.length := by omega
  obtain ⟨b1, o1, hA1, q1⟩ := (ha' S).at hil
  obtain ⟨b2, o2, hA2, q2⟩ := (hb' S).at (i := i) (by omega)
  have q1 := rP0 q1 (by omega)
  have q2 := rP0 q2 (by omega)
  simp only [zEnc, l_o, Nat.mul_one] at q1 q2
  rw [← getD_at] at q1 q2
  have hbad : ¬ unitOk x.r.us x.r.gs i → ¬ okUnits x.r.us x.r.gs := fun hn h => hn (h.2.2 i hil)
  have hgo := fun hx => unitOk_snoc hok (i := i) hx
  have hU : unitOk x.r.us x.r.gs i ↔ (btw (x.r.us.getD i 0) 0 199 ∧ (0 < i → x.r.us.getD (i - 1) 0 < x.r.us.getD i 0) ∧ btw (x.r.gs.getD i 0) (-1) 4) := Iff.rfl
  ((try clear F); have F := S.all; (try simp only [aC, aN, yC, and_true] at F))
  (try simp (disch := first|omega|assumption|exact l_a rfl) only [go_sem, ↓wBk, simprocAttr, e20, e22, hA1, q1, Nat.mul_one])
  refine cI (between_ok _ _ _ _) ?_
  rintro _ _ ⟨rfl, rfl⟩
  by_cases c1 : btw (x.r.us.getD i 0) 0 199
  case neg =>
   rw [dF c1]
   (try simp (disch := first|omega|assumption|exact l_a rfl) only [go_sem, ↓wBk, simprocAttr])
   exact hK _ _ ⟨by rw [dF (hbad fun h => c1 (hU.1 h).1)], S.fr⟩
  rw [dT c1]
  by_cases c2 : 0 < i
  ·obtain ⟨j, rfl⟩ : ∃ j, i = j + 1 := ⟨i - 1, by omega⟩
   obtain ⟨b3, o3, hA3, q3⟩ := (ha' S).at (i := j) (by omega)
   rw [hA1] at hA3
   cases hA3
   have q3 := rP0 q3 (by omega)
   simp only [zEnc, l_o, Nat.mul_one] at q3
   rw [← getD_at] at q3
   have hj1 : ((j + 1 : Nat) : Int) - 1 = (j : Int) := by omega
   have hj0 : (0 : Int) < ((j + 1 : Nat) : Int) := by omega
   rw [Nat.add_sub_cancel] at hU
   by_cases c3 : x.r.us.getD (j + 1) 0 ≤ x.r.us.getD j 0
   ·(try simp (disch := first|omega|assumption|exact l_a rfl) only [go_sem, ↓wBk, simprocAttr, e1, F, RetV.enc, hA1, hj0, hj1, q3, c3, Nat.mul_one])
    exact hK _ _ ⟨by rw [dF (hbad fun h => by have := (hU.1 h).2.1 (by omega); omega)], S.fr⟩
   (try simp (disch := first|omega|assumption|exact l_a rfl) only [go_sem, ↓wBk, simprocAttr, e1, F, RetV.enc, hA1, hA2, hj0, hj1, q2, q3, c3, Nat.mul_one])
   refine cI (between_ok _ _ _ _) ?_
   rintro _ _ ⟨rfl, rfl⟩
   by_cases c4 : btw (x.r.gs.getD (j + 1) 0) (-1) 4
   case neg =>
    rw [dF c4]
    (try simp (disch := first|omega|assumption|exact l_a rfl) only [go_sem, ↓wBk, simprocAttr])
    exact hK _ _ ⟨by rw [dF (hbad fun h => c4 (hU.1 h).2.2)], S.fr⟩
   rw [dT c4]
   (try simp (disch := first|omega|assumption|exact l_a rfl) only [go_sem, ↓wBk, simprocAttr, e22])
   refine hJ _ _ ?_ ?_
   ·(try simp (disch := first|omega|assumption|exact l_a rfl) only [go_sem, ↓wBk, simprocAttr, e1, e20, e21, hA1])
    exact ⟨j + 1 + 1, rfl, by omega, hgo (hU.2 ⟨c1, fun _ => by omega, c4⟩), S⟩
   ·(try simp (disch := first|omega|assumption|exact l_a rfl) only [go_sem, ↓wBk, simprocAttr, e22])
    omega
  ·obtain rfl : i = 0 := by omega
   rw [Nat.add_zero] at q1 q2
   (try simp (disch := first|omega|assumption|exact l_a rfl) only [go_sem, ↓wBk, simprocAttr, e1, F, RetV.enc, hA2, q2, Nat.mul_one])
   refine cI (between_ok _ _ _ _) ?_
   rintro _ _ ⟨rfl, rfl⟩
   by_cases c4 : btw (x.r.gs.getD 0 0) (-1) 4
   case neg =>
    rw [dF c4]
    (try simp (disch := first|omega|assumption|exact l_a rfl) only [go_sem, ↓wBk, simprocAttr])
    exact hK _ _ ⟨by rw [dF (hbad fun h => c4 (hU.1 h).2.2)], S.fr⟩
   rw [dT c4]
   (try simp (disch := first|omega|assumption|exact l_a rfl) only [go_sem, ↓wBk, simprocAttr, e22])
   refine hJ _ _ ?_ ?_
   ·(try simp (disch := first|omega|assumption|exact l_a rfl) only [go_sem, ↓wBk, simprocAttr, e1, e20, e21, hA1])
    exact ⟨1, rfl, by omega, hgo (hU.2 ⟨c1, fun h => absurd h (by omega), c4⟩), S⟩
   ·(try simp (disch := first|omega|assumption|exact l_a rfl) only [go_sem, ↓wBk, simprocAttr, e22])
    omega
 obtain rfl : i = x.r.us.length := by omega
 (try simp (disch := first|omega|assumption|exact l_a rfl) only [go_sem, ↓wBk, simprocAttr])
 exact hK _ _ ⟨by rw [dT ⟨n1, by omega, hok⟩], S.fr⟩
theorem RmaRight_ok {h0 : Heap} (x : RetV) (ha : Arr zEnc 1 h0 x.A x.r.us) (hb : Arr zEnc 1 h0 x.B x.r.gs) (l1 : x.r.us.length < 1000000) (l2 : x.r.gs.length < 1000000) :
  CallsH Tryz.prog 109 [.agg x.enc.toArray] h0 fun v h' => v = .bool (dcd x.r.right) ∧ Fr h0 h' [] := by
 have S := St.nil h0
 (refine eK c_rma_Right (l_a rfl) fun K hK => ?_; (try simp (disch := first|omega|assumption|exact l_a rfl) only [go_sem, ↓wBk, simprocAttr, ir_rma_Right]))
 (refine tA S ?_; clear S; intro b h S; (try simp only [sC, sN, l_h, l_i, Nat.zero_add, Nat.reduceAdd, l_j, l_k] at S); ((try clear F); have F := S.all; (try simp only [aC, aN, yC, and_true] at F)))
 (try simp (disch := first|omega|assumption|exact l_a rfl) only [go_sem, ↓wBk, simprocAttr, F, RetV.enc])
 refine cI (between_ok _ _ _ _) ?_
 rintro _ _ ⟨rfl, rfl⟩
 by_cases p0 : btw x.r.num 1 100
 case neg =>
  rw [dF p0]
  (try simp (disch := first|omega|assumption|exact l_a rfl) only [go_sem, ↓wBk, simprocAttr, F, RetV.enc])
  exact hK _ _ ⟨by rw [dF fun h => p0 h.1], S.fr⟩
 rw [dT p0]
 (try simp (disch := first|omega|assumption|exact l_a rfl) only [go_sem, ↓wBk, simprocAttr, F, RetV.enc])
 refine cI (between_ok _ _ _ _) ?_
 rintro _ _ ⟨rfl, rfl⟩
 by_cases p1 : btw x.r.ord 0 19
 case neg =>
  rw [dF p1]
  (try simp (disch := first|omega|assumption|exact l_a rfl) only [go_sem, ↓wBk, simprocAttr, F, RetV.enc])
  exact hK _ _ ⟨by rw [dF fun h => p1 h.2.1], S.fr⟩
 rw [dT p1]
 (try simp (disch := first|omega|assumption|exact l_a rfl) only [go_sem, ↓wBk, simprocAttr, F, RetV.enc])
 refine cI (between_ok _ _ _ _) ?_
 rintro _ _ ⟨rfl, rfl⟩
 by_cases p2 : btw x.r.rea 0 3
 case neg =>
  rw [dF p2]
  (try simp (disch := first|omega|assumption|exact l_a rfl) only [go_sem, ↓wBk, simprocAttr, F, RetV.enc])
  exact hK _ _ ⟨by rw [dF fun h => p2 h.2.2.1], S.fr⟩
 rw [dT p2]
 (try simp (disch := first|omega|assumption|exact l_a rfl) only [go_sem, ↓wBk, simprocAttr, F, RetV.enc])
 refine cI (between_ok _ _ _ _) ?_
 rintro _ _ ⟨rfl, rfl⟩
 by_cases p3 : btw x.r.want 0 1000
 case neg =>
  rw [dF p3]
  (try simp (disch := first|omega|assumption|exact l_a rfl) only [go_sem, ↓wBk, simprocAttr, F, RetV.enc])
  exact hK _ _ ⟨by rw [dF fun h => p3 h.2.2.2.1], S.fr⟩
 rw [dT p3]
 (try simp (disch := first|omega|assumption|exact l_a rfl) only [go_sem, ↓wBk, simprocAttr, F, RetV.enc])
 refine cI (between_ok _ _ _ _) ?_
 rintro _ _ ⟨rfl, rfl⟩
 by_cases p4 : btw x.r.res (-1) 199
 case neg =>
  rw [dF p4]
  (try simp (disch := first|omega|assumption|exact l_a rfl) only [go_sem, ↓wBk, simprocAttr, F, RetV.enc])
  exact hK _ _ ⟨by rw [dF fun h => p4 h.2.2.2.2.1], S.fr⟩
 rw [dT p4]
 (try simp (disch := first|omega|assumption|exact l_a rfl) only [go_sem, ↓wBk, simprocAttr, F, RetV.enc])
 refine cI (between_ok _ _ _ _) ?_
 rintro _ _ ⟨rfl, rfl⟩
 by_cases p5 : btw x.r.state 1 9
 case neg =>
  rw [dF p5]
  (try simp (disch := first|omega|assumption|exact l_a rfl) only [go_sem, ↓wBk, simprocAttr, F, RetV.enc])
  exact hK _ _ ⟨by rw [dF fun h => p5 h.2.2.2.2.2.1], S.fr⟩
 rw [dT p5]
 (try simp (disch := first|omega|assumption|exact l_a rfl) only [go_sem, ↓wBk, simprocAttr, F, RetV.enc])
 refine cI (between_ok _ _ _ _) ?_
 rintro _ _ ⟨rfl, rfl⟩
 by_cases p6 : btw x.r.day 0 100000
 case neg =>
  rw [dF p6]
  (try simp (disch := first|omega|assumption|exact l_a rfl) only [go_sem, ↓wBk, simprocAttr, F, RetV.enc])
  exact hK _ _ ⟨by rw [dF fun h => p6 h.2.2.2.2.2.2.1], S.fr⟩
 rw [dT p6]
 (try simp (disch := first|omega|assumption|exact l_a rfl) only [go_sem, ↓wBk, simprocAttr, F, RetV.enc])
 rw [show [Value.int .i64 x.r.num, .int .i64 x.r.ord, .int .i64 x.r.rea, .int .i64 x.r.want, .int .i64 x.r.res, .bool x.r.cred, .int .i64 x.r.state, .int .i64 x.r.day, .slice x.A x.r.us.length x.c, .slice x.B x.r.gs.length x.d, .int .i64 x.r.worth, .int .i64 x.r.paid, .int .i64 x.r.credd, .int .i64 x.r.given] = x.enc from rfl]
 refine cI (runits_ok x (ha.fr S.fr (by simp)) (hb.fr S.fr (by simp)) l1 l2) ?_
 rintro _ h ⟨rfl, f1⟩
 have S := S.frame f1
 by_cases p7 : okUnits x.r.us x.r.gs
 case neg =>
  rw [dF p7]
  (try simp (disch := first|omega|assumption|exact l_a rfl) only [go_sem, ↓wBk, simprocAttr])
  exact hK _ _ ⟨by rw [dF fun h => p7 h.2.2.2.2.2.2.2.1], S.fr⟩
 rw [dT p7]
 ((try clear F); have F := S.all; (try simp only [aC, aN, yC, and_true] at F))
 (try simp (disch := first|omega|assumption|exact l_a rfl) only [go_sem, ↓wBk, simprocAttr, F, RetV.enc])
 rw [show [Value.int .i64 x.r.num, .int .i64 x.r.ord, .int .i64 x.r.rea, .int .i64 x.r.want, .int .i64 x.r.res, .bool x.r.cred, .int .i64 x.r.state, .int .i64 x.r.day, .slice x.A x.r.us.length x.c, .slice x.B x.r.gs.length x.d, .int .i64 x.r.worth, .int .i64 x.r.paid, .int .i64 x.r.credd, .int .i64 x.r.given] = x.enc from rfl]
 refine cI (rsums_ok x _) ?_
 rintro _ h ⟨rfl, f1⟩
 have S := S.frame f1
 (try simp (disch := first|omega|assumption|exact l_a rfl) only [go_sem, ↓wBk, simprocAttr])
 refine hK _ _ ⟨?_, S.fr⟩
 by_cases p8 : okMon x.r.worth ∧ okMon x.r.paid ∧ okMon x.r.credd ∧ okMon x.r.given
 ·rw [dT p8, dT ⟨p0, p1, p2, p3, p4, p5, p6, p7, p8⟩]
 ·rw [dF p8, dF fun h => p8 h.2.2.2.2.2.2.2.2]
end
section
set_option maxHeartbeats 4000000
theorem perm_sum {α : Type} (f : α → Nat) {a b : List α} (h : a.Perm b) : (a.map f).sum = (b.map f).sum := by
 induction h with
 | nil => rfl
 | cons x _ ih => simp only [List.map_cons, List.sum_cons, ih]
 | swap x y l => simp only [List.map_cons, List.sum_cons]; omega
 | trans _ _ ih1 ih2 => rw [ih1, ih2]
theorem sum_le_mul {α : Type} (f : α → Nat) (M : Nat) : ∀ {T : List α}, (∀ z ∈ T, f z ≤ M) → (T.map f).sum ≤ T.length * M ∧ ∀ x ∈ T, f x = 0 → (T.map f).sum + M ≤ T.length * M
 | [], _ => ⟨by simp, fun x hx => by cases hx⟩
 | y :: T, h => by
  obtain ⟨h1, h2⟩ := sum_le_mul f M (T := T) fun z hz => h z (by simp [hz])
  have hy := h y (by simp)
  simp only [List.map_cons, List.sum_cons, l_f, Nat.succ_mul]
  refine ⟨by omega, fun x hx h0 => ?_⟩
  rcases List.mem_cons.1 hx with rfl | hx
  ·omega
  ·have := h2 x hx h0; omega
theorem IsShares.le {sum all : Nat} {ws : List Nat} {out : List Int} (H : IsShares sum all ws out) (hall : 0 < all) (he : ws.sum = all) (hle : sum ≤ all) : ∀ i (hi : i < ws.length), out.getD i 0 ≤ (ws[i] : Nat) := by
 obtain ⟨Z, hp, hs, rfl⟩ := H
 obtain ⟨hl1, hl2⟩ := left_law hall he (sum := sum)
 have hZl : Z.length = ws.length := by rw [hp.length_eq, natsI_len]
 have hql : ((quoW sum all ws).map Int.ofNat).length = ws.length := by rw [l_z, quoW_len]
 have hZd : ∀ z ∈ Z, 0 ≤ z ∧ z < (((quoW sum all ws).map Int.ofNat).length : Int) := fun z hz => by rw [hql]; exact natsI_mem.1 (hp.mem_iff.1 hz)
 have hZn : Z.Nodup := hp.nodup_iff.2 (natsI_nodup _)
 have htd : ∀ z ∈ Z.take (sum - (quoW sum all ws).sum), 0 ≤ z ∧ z < (((quoW sum all ws).map Int.ofNat).length : Int) := fun z hz => hZd z (List.mem_of_mem_take hz)
 have hg := bump_get _ _ (hZn.sublist (List.take_sublist (sum - (quoW sum all ws).sum) Z)) htd
 intro i hi
 have hq : ((quoW sum all ws).map Int.ofNat).getD i 0 = ((sum * ws[i] / all : Nat) : Int) := by
  rw [l_s, l_r (by rw [hql]; exact hi)]
  simp only [quoW, l_ae]
  rfl
 rw [hg i (by rw [hql]; exact hi), hq]
 have hqr := quo_rest sum all ws
 rw [he] at hqr
 by_cases c1 : sum = all
 ·have hqw : quoW sum all ws = ws := by
   rw [quoW, c1]
   conv => rhs; rw [← List.map_id ws]
   exact List.map_congr_left fun w _ => by rw [Nat.mul_comm, Nat.mul_div_cancel _ hall]; rfl
  rw [hqw, he, c1, Nat.sub_self, l_an, if_neg (by simp), Nat.mul_comm, Nat.mul_div_cancel _ hall]
  omega
 ·by_cases c2 : ws[i] = 0
  ·rw [if_neg, c2, Nat.mul_zero, Nat.zero_div]
   ·simp
   ·intro hm
    have hr0 : (restW sum all ws).getD ((i : Int).toNat) 0 = 0 := by
     simp only [l_ap, restW, l_s, l_ag, l_r hi, c2]
     simp
    have hrl : ∀ z : Int, (restW sum all ws).getD z.toNat 0 ≤ all - 1 := fun z => by
     rw [l_s, restW, l_ag]
     cases ws[z.toNat]? with
     | none => simp
     | some w =>
      have := Nat.mod_lt (sum * w) hall
      simp only [Option.map_some, Option.getD_some]
      omega
    have hsz : (Z.map fun z : Int => (restW sum all ws).getD z.toNat 0).sum = (restW sum all ws).sum := by
     rw [perm_sum _ hp]
     congr 1
     apply List.ext_getElem
     ·simp [natsI, restW]
     ·intro k h1 h2
      simp only [natsI, l_ae, List.getElem_range]
      show (restW sum all ws).getD ((k : Int).toNat) 0 = _
      rw [l_ap, l_s, l_r h2]
      rfl
    have hcut : (Z.map fun z : Int => (restW sum all ws).getD z.toNat 0).sum = ((Z.take (sum - (quoW sum all ws).sum)).map fun z : Int => (restW sum all ws).getD z.toNat 0).sum + ((Z.drop (sum - (quoW sum all ws).sum)).map fun z : Int => (restW sum all ws).getD z.toNat 0).sum := by
     conv => lhs; rw [← List.take_append_drop (sum - (quoW sum all ws).sum) Z, l_al, List.sum_append]
    have hdr : ∀ z ∈ Z.drop (sum - (quoW sum all ws).sum), (restW sum all ws).getD z.toNat 0 ≤ 0 := fun z hz => by
     rw [← List.take_append_drop (sum - (quoW sum all ws).sum) Z] at hs
     have hrk := (List.pairwise_append.1 hs).2.2 _ hm z hz
     unfold Rk at hrk
     simp only at hrk
     omega
    have h3 := (sum_le_mul (fun z : Int => (restW sum all ws).getD z.toNat 0) 0 hdr).1
    have h4 := (sum_le_mul (fun z : Int => (restW sum all ws).getD z.toNat 0) (all - 1) (T := Z.take (sum - (quoW sum all ws).sum)) fun z _ => hrl z).2 _ hm hr0
    rw [l_ad, Nat.min_eq_left (by omega)] at h4
    obtain ⟨d, hd⟩ : ∃ d, sum = (quoW sum all ws).sum + d := ⟨sum - (quoW sum all ws).sum, by omega⟩
    have hd2 : sum - (quoW sum all ws).sum = d := by omega
    rw [hd2] at h3 h4 hcut hm
    obtain ⟨m, hm1⟩ : ∃ m, all = m + 1 := ⟨all - 1, by omega⟩
    have h5 : d * all = (restW sum all ws).sum := by
     have h6 : sum * all = (quoW sum all ws).sum * all + d * all := by
      conv => lhs; rw [hd, Nat.add_mul]
     omega
    rw [hsz] at hcut
    have h7 : d * all = d * (all - 1) + d := by rw [hm1, Nat.add_sub_cancel, Nat.mul_succ]
    have h8 : d = 0 := by omega
    rw [h8] at hm
    simp at hm
  ·have hlt : sum * ws[i] < all * ws[i] := Nat.mul_lt_mul_of_pos_right (by omega) (by omega)
   have hq2 : sum * ws[i] / all < ws[i] := (Nat.div_lt_iff_lt_mul hall).2 (by rw [Nat.mul_comm (ws[i])]; exact hlt)
   split <;> omega
end
section
set_option maxHeartbeats 8000000
def polOf (ps : List Pol) (k : Int) : Pol := if 0 ≤ k then ps.getD k.toNat Pol.zero else Pol.zero
def untAt (U : List Unt) (u : Int) : Unt := U.getD u.toNat ⟨0, 0, 0, 0⟩
theorem zero_right : Pol.zero.right := by
 simp [Pol.right, Pol.zero, okPts, okGrade]
theorem polOf_right {ps : List Pol} (h : RightT ps) (k : Int) : (polOf ps k).right := by
 unfold polOf
 split
 ·rw [l_s]
  by_cases hk : k.toNat < ps.length
  ·rw [l_r hk]; exact h.2 _ (l_v hk)
  ·rw [List.getElem?_eq_none (by omega)]; exact zero_right
 ·exact zero_right
theorem polOf_at {ps : List Pol} {i : Nat} (hi : i < ps.length) : polOf ps (i : Int) = ps[i] := by
 rw [polOf, if_pos (by omega), l_ap, l_s, l_r hi]; rfl
theorem polOf_out {ps : List Pol} {k : Int} (hk : k < 0 ∨ (ps.length : Int) ≤ k) : polOf ps k = Pol.zero := by
 unfold polOf
 split
 ·rw [l_s, List.getElem?_eq_none (by omega)]; rfl
 ·rfl
def shOk (U : List Unt) : Prop := ∀ u ∈ U, 0 ≤ u.share ∧ u.share ≤ 4294967296
theorem untAt_share {U : List Unt} (h : shOk U) (u : Int) : 0 ≤ (untAt U u).share ∧ (untAt U u).share ≤ 4294967296 := by
 unfold untAt
 rw [l_s]
 by_cases hk : u.toNat < U.length
 ·rw [l_r hk]; exact h _ (l_v hk)
 ·rw [List.getElem?_eq_none (by omega)]; exact ⟨by decide, by decide⟩
theorem OfP_ok {h0 h : Heap} {l : List HP} {A : Option Addr} {c : Nat} {xs : List Pol} (S : St h0 h l) (ha : ∀ h', St h0 h' l → Arr Pol.enc 16 h' A xs) (k : Int) :
  CallsH Tryz.prog 99 [.slice A xs.length c, .int .i64 k] h fun v h' => St h0 h' l ∧ ∃ e, v = .tuple #[.agg (polOf xs k).enc.toArray, .int .i64 e] := by
 refine (Of_ok S ha k).mono ?_
 rintro v h' ⟨S, ⟨i, hi, rfl, rfl⟩ | ⟨hk, rfl⟩⟩
 ·exact ⟨S, 0, by rw [polOf_at hi]⟩
 ·exact ⟨S, 10, by rw [polOf_out hk]⟩
end
section
set_option maxHeartbeats 16000000
def priceOf (ss : List Sup) (sku : Int) : Option Int := match ss with
 | [] => none
 | s :: ss => if s.sku = sku then some s.price else priceOf ss sku
theorem priceOf_at {ss : List Sup} {sku : Int} : ∀ {i : Nat} (hi : i < ss.length), (∀ s ∈ ss.take i, s.sku ≠ sku) → ss[i].sku = sku → priceOf ss sku = some ss[i].price := by
 induction ss with
 | nil => intro i hi; simp at hi
 | cons s ss ih =>
  intro i hi h1 h2
  match i with
  | 0 => simp only [List.getElem_cons_zero] at h2 ⊢; rw [priceOf, if_pos h2]
  | i + 1 =>
   rw [priceOf, if_neg (h1 s (by simp))]
   exact ih (by simpa using hi) (fun x hx => h1 x (by simp [hx])) h2
theorem priceOf_no {ss : List Sup} {sku : Int} (h : ∀ s ∈ ss, s.sku ≠ sku) : priceOf ss sku = none := by
 induction ss with
 | nil => rfl
 | cons s ss ih => rw [priceOf, if_neg (h s (by simp)), ih fun x hx => h x (by simp [hx])]
theorem sku_snoc {ss : List Sup} {sku : Int} {i : Nat} (hi : i < ss.length) (h1 : ∀ s ∈ ss.take i, s.sku ≠ sku) (h2 : ¬ ss[i].sku = sku) : ∀ s ∈ ss.take (i + 1), s.sku ≠ sku := by
 rw [l_t hi]
 intro s hs
 rcases List.mem_append.1 hs with hs | hs
 ·exact h1 s hs
 ·rw [l_aa] at hs; rw [hs]; exact h2
theorem OPrice_ok {h0 : Heap} (C : Cfg) (sku : Int) (r : Arr Sup.enc 3 h0 C.A2 C.ss) (l2 : C.ss.length < 1000000) :
  CallsH Tryz.prog 97 [.agg C.enc.toArray, .int .i64 sku] h0 fun v h' => v = .tuple #[.int .i64 ((priceOf C.ss sku).getD 0), .int .i64 (if (priceOf C.ss sku).isSome then 0 else 7)] ∧ Fr h0 h' [] := by
 have S := St.nil h0
 (refine eK c_order_Price (l_a rfl) fun K hK => ?_; (try simp (disch := first|omega|assumption|exact l_a rfl) only [go_sem, ↓wBk, simprocAttr, ir_order_Price]))
 (refine tA S ?_; clear S; intro g h S; (try simp only [sC, sN, l_h, l_i, Nat.zero_add, Nat.reduceAdd, l_j, l_k] at S); ((try clear F); have F := S.all; (try simp only [aC, aN, yC, and_true] at F)))
 (try simp (disch := first|omega|assumption|exact l_a rfl) only [go_sem, ↓wBk, simprocAttr, F, Cfg.enc])
 refine lI (fun ρ h' => ρ 1 = .int .i64 sku ∧ ρ 9 = .slice C.A2 C.ss.length C.c2 ∧ ρ 10 = .int .i64 C.ss.length ∧ (∃ i : Nat, ρ 11 = .int .i64 i ∧ i ≤ C.ss.length ∧ ∀ s ∈ C.ss.take i, s.sku ≠ sku) ∧ St h0 h' []) (fun ρ _ => C.ss.length - (iv (ρ 11)).toNat) ?_ ?_
 ·(try simp (disch := first|omega|assumption|exact l_a rfl) only [go_sem, ↓wBk, simprocAttr])
  exact ⟨⟨0, rfl, by omega, by simp⟩, S.tl⟩
 clear S F
 rintro ρ h J hJ ⟨e1, e9, e10, ⟨i, e11, hi, hne⟩, S⟩
 (try simp (disch := first|omega|assumption|exact l_a rfl) only [go_sem, ↓wBk, simprocAttr, e10, e11])
 refine cD (fun hlt => ?_) (fun hlt => ?_)
 ·have hil : i < C.ss.length := by omega
  obtain ⟨b, off, hA, hr1⟩ := (r.fr S.fr (by simp)).at hil
  have hat := fun h => priceOf_at (sku := sku) hil hne h
  have hsn := fun h => sku_snoc (sku := sku) hil hne h
  generalize C.ss[i] = x at *
  (try simp (disch := first|omega|assumption|exact l_a rfl) only [go_sem, ↓wBk, simprocAttr, e9, e11, hA, hr1])
  (refine tA S ?_; clear S; intro q h S; (try simp only [sC, sN, l_h, l_i, Nat.zero_add, Nat.reduceAdd, l_j, l_k] at S); ((try clear F); have F := S.all; (try simp only [aC, aN, yC, and_true] at F)))
  (try simp (disch := first|omega|assumption|exact l_a rfl) only [go_sem, ↓wBk, simprocAttr, F, Sup.enc])
  (refine tS (by first | exact S | exact S.p1 | exact S.p2 | exact S.p3 | exact S.p4 | exact S.p5 | exact S.p6 | exact S.p7 | exact S.p8 | exact S.p9 | exact S.p10 | exact S.p11) (by rfl) (by rfl) (l_a rfl) ?_; clear S; intro h S; (try simp only [sC, sN, l_h, l_i, Nat.zero_add, Nat.reduceAdd, l_j, l_k] at S); ((try clear F); have F := S.all; (try simp only [aC, aN, yC, and_true] at F)))
  by_cases c1 : x.sku = sku
  ·(try simp (disch := first|omega|assumption|exact l_a rfl) only [go_sem, ↓wBk, simprocAttr, F, e1, c1])
   exact hK _ _ ⟨by rw [hat c1]; rfl, S.fr⟩
  ·(try simp (disch := first|omega|assumption|exact l_a rfl) only [go_sem, ↓wBk, simprocAttr, F, e1, c1, e11])
   refine hJ _ _ ?_ ?_
   ·(try simp (disch := first|omega|assumption|exact l_a rfl) only [go_sem, ↓wBk, simprocAttr, e1, e9, e10])
    exact ⟨⟨i + 1, rfl, by omega, hsn c1⟩, S.tl⟩
   ·(try simp (disch := first|omega|assumption|exact l_a rfl) only [go_sem, ↓wBk, simprocAttr, e11])
    omega
 ·obtain rfl : i = C.ss.length := by omega
  rw [l_aj] at hne
  (try simp (disch := first|omega|assumption|exact l_a rfl) only [go_sem, ↓wBk, simprocAttr])
  exact hK _ _ ⟨by rw [priceOf_no hne]; rfl, S.fr⟩
end
end Go.Proofs.YtijnkebgciaieaaGreat.MX
