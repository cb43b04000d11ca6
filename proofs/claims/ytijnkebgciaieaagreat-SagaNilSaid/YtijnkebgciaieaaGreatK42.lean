import Derived.Test.YtijnkebgciaieaaGreatK41
import Derived.Test.YtijnkebgciaieaaGreatK23
namespace Go.Proofs.YtijnkebgciaieaaGreat.MX
open Go Go.Proofs
set_option linter.unusedSimpArgs false
set_option linter.unusedVariables false
section
set_option maxHeartbeats 8000000
theorem intc_of {h : Heap} {d : Nat} {cs : List Value} (hg : Good Tryz.prog h d 3 cs) : ∃ x : Int, cs = zEnc x ∧ I64 x := by
 have hl : leaves Tryz.prog 2 3 = some [.int .i64] := by kernel_rfl
 obtain ⟨a0, _, rfl, w0, rfl⟩ := leaves_of 2 hg hl
 exact ⟨a0, rfl, wf_i64 w0⟩
structure CmdV.ok (h : Heap) (x : CmdV) : Prop where
 us : Arr zEnc 1 h x.A x.c.us
 lt : x.c.us.length < 9223372036854775808
 i64 : x.c.i64
theorem cmd_of {h : Heap} {d : Nat} {cs : List Value} (hg : Good Tryz.prog h d 24 cs) : ∃ x : CmdV, cs = x.enc ∧ x.ok h := by
 have hl : leaves Tryz.prog 3 24 = some [.int .i64, .int .i64, .slice 3, .int .i64, .int .i64, .bool, .int .i64, .int .i64, .int .i64, .int .i64, .int .i64, .bool] := by kernel_rfl
 obtain ⟨a0, _, rfl, w0, a1, _, rfl, w1, v2, _, rfl, g2, a3, _, rfl, w3, a4, _, rfl, w4, b5, _, rfl, a6, _, rfl, w6, a7, _, rfl, w7, a8, _, rfl, w8, a9, _, rfl, w9, a10, _, rfl, w10, b11, _, rfl, rfl⟩ := leaves_of 3 hg hl
 have hm : maxLen = 9223372036854775807 := rfl
 obtain ⟨A, c, us, rfl, hu, q1, q2, hw⟩ := GoodS.arr (enc := zEnc) (sz := 1) (by kernel_rfl) (by decide) g2 intc_of
 exact ⟨⟨⟨a0, a1, us, a3, a4, b5, a6, a7, a8, a9, a10, b11⟩, A, c⟩, rfl, hu, by show us.length < _; omega, ⟨wf_i64 w0, wf_i64 w1, hw, wf_i64 w3, wf_i64 w4, wf_i64 w6, wf_i64 w7, wf_i64 w8, wf_i64 w9, wf_i64 w10⟩⟩
section
variable {h0 h : Heap} {l : List HP}
theorem Theirs15_ok (x : CmdV) (ha : ∀ h', St h0 h' l → Arr zEnc 1 h' x.A x.c.us) (l1 : x.c.us.length < 1000000) (S : St h0 h l) :
  CallsH Tryz.prog 6 [.agg x.enc.toArray] h fun v h' => ∃ y : CmdV, v = .agg y.enc.toArray ∧ y.c = x.c ∧ St h0 h' (ownA zEnc 1 3 (.slice y.A y.c.us.length y.n) y.c.us :: l) := by
 (refine eK c_recouplaw15_Theirs (l_a rfl) fun K hK => ?_; (try simp (disch := first|omega|assumption|exact l_a rfl) only [go_sem, ↓wBk, simprocAttr, ir_recouplaw15_Theirs]))
 (refine tA S ?_; clear S; intro b h S; (try simp only [sC, sN, l_h, l_i, Nat.zero_add, Nat.reduceAdd, l_j, l_k] at S); ((try clear F); have F := S.all; (try simp only [aC, aN, yC, and_true] at F)))
 (try simp (disch := first|omega|assumption|exact l_a rfl) only [go_sem, ↓wBk, simprocAttr])
 (refine tA S ?_; clear S; intro g h S; (try simp only [sC, sN, l_h, l_i, Nat.zero_add, Nat.reduceAdd, l_j, l_k] at S); ((try clear F); have F := S.all; (try simp only [aC, aN, yC, and_true] at F)))
 (try simp (disch := first|omega|assumption|exact l_a rfl) only [go_sem, ↓wBk, simprocAttr, F, CmdV.enc])
 (refine tA S ?_; clear S; intro t h S; (try simp only [sC, sN, l_h, l_i, Nat.zero_add, Nat.reduceAdd, l_j, l_k] at S); ((try clear F); have F := S.all; (try simp only [aC, aN, yC, and_true] at F)))
 (try simp (disch := first|omega|assumption|exact l_a rfl) only [go_sem, ↓wBk, simprocAttr])
 (refine tS (by first | exact S | exact S.p1 | exact S.p2 | exact S.p3 | exact S.p4 | exact S.p5 | exact S.p6 | exact S.p7 | exact S.p8 | exact S.p9 | exact S.p10 | exact S.p11) (by rfl) (by rfl) (l_a rfl) ?_; clear S; intro h S; (try simp only [sC, sN, l_h, l_i, Nat.zero_add, Nat.reduceAdd, l_j, l_k] at S); ((try clear F); have F := S.all; (try simp only [aC, aN, yC, and_true] at F)))
 (try simp (disch := first|omega|assumption|exact l_a rfl) only [go_sem, ↓wBk, simprocAttr])
 (refine tA S ?_; clear S; intro e h S; (try simp only [sC, sN, l_h, l_i, Nat.zero_add, Nat.reduceAdd, l_j, l_k] at S); ((try clear F); have F := S.all; (try simp only [aC, aN, yC, and_true] at F)))
 have S := S.cellOwn (enc := zEnc) (sz := 1) (ys := []) zEl rfl (by decide)
 ((try clear F); have F := S.all; (try simp only [aC, aN, yC, and_true] at F))
 (try simp (disch := first|omega|assumption|exact l_a rfl) only [go_sem, ↓wBk, simprocAttr, F, CmdV.enc])
 refine tAp (bytes := 8) (ys := x.c.us) zEl (by omega) zEp rfl S rfl (src_arr zEl (ha _ S.tl.tl.tl.tl) rfl) (by simp; omega) (by simp; omega) ?_
 clear S F
 intro v h S
 rw [l_k] at S
 obtain ⟨A, c, rfl⟩ := S.sl
 (try simp (disch := first|omega|assumption|exact l_a rfl) only [go_sem, ↓wBk, simprocAttr])
 (refine tS (by first | exact S | exact S.p1 | exact S.p2 | exact S.p3 | exact S.p4 | exact S.p5 | exact S.p6 | exact S.p7 | exact S.p8 | exact S.p9 | exact S.p10 | exact S.p11) (by rfl) (by rfl) (l_a rfl) ?_; clear S; intro h S; (try simp only [sC, sN, l_h, l_i, Nat.zero_add, Nat.reduceAdd, l_j, l_k] at S); ((try clear F); have F := S.all; (try simp only [aC, aN, yC, and_true] at F)))
 (try simp (disch := first|omega|assumption|exact l_a rfl) only [go_sem, ↓wBk, simprocAttr, F])
 refine tS S.p2 rfl rfl (l_a rfl) ?_
 clear S F
 intro h S
 (try simp only [sC, sN, l_h, l_i, Nat.zero_add, Nat.reduceAdd, l_j, l_k] at S)
 ((try clear F); have F := S.all; (try simp only [aC, aN, yC, and_true] at F))
 (try simp (disch := first|omega|assumption|exact l_a rfl) only [go_sem, ↓wBk, simprocAttr, F])
 exact hK _ _ ⟨⟨x.c, A, c⟩, rfl, rfl, S.tl.tl.p1.tl⟩
end
theorem cArr {h : Heap} {A : Option Addr} : Arr zEnc 1 h A [] := fun i hi => absurd hi (by simp)
def c7 : Cmd := ⟨7, 0, [], 0, 0, false, 0, 0, 0, 3, 0, false⟩
theorem c7_formed : c7.formed := by
 refine ⟨?_, ?_⟩
 ·unfold Cmd.fits c7 btw
  simp
 ·unfold Cmd.bare Cmd.nought c7
  simp
theorem take_c7 {D : Cfg} : (takeP D (unitsAll c0C) (sagNew c0C) c7).2.2.1 = 0 ∧ (takeP D (unitsAll c0C) (sagNew c0C) c7).2.2.2.now = 3 := by
 unfold takeP
 rw [if_neg (by rw [dT c7_formed]; decide)]
 have : doP D (unitsAll c0C) ⟨sagNew c0C, []⟩ c7 = (tickP D.ss (unitsAll c0C) ⟨sagNew c0C, []⟩ 3).map fun x => (0, x.2, x.1) := rfl
 rw [this]
 have : tickP D.ss (unitsAll c0C) ⟨sagNew c0C, []⟩ 3 = .ok ({ (⟨sagNew c0C, []⟩ : Wk) with s := { sagNew c0C with now := 3 } }, []) := rfl
 rw [this]
 exact ⟨rfl, rfl⟩
theorem new_wf {C : Cfg} : (sagNew C).wf (unitsAll C) 0 := by
 refine ⟨?_, Nat.zero_le _, fun r hr => absurd hr (by simp [sagNew]), good_nil, fun r hr => absurd hr (by simp [sagNew]), Nat.zero_le _, fun r hr => absurd hr (by simp [sagNew]), ?_, Nat.zero_le _, ?_⟩
 ·show (stkOf ((unitsAll C).map Unt.sku) ((unitsAll C).map atOf)).length = (unitsAll C).length
  simp [stkOf]
 ·exact ⟨by show (1 : Int) ≤ 1; decide, by show (1 : Int) ≤ 8589934592 + 0; decide⟩
 ·exact ⟨by show (0 : Int) ≤ 0; decide, by show (0 : Int) ≤ 100000; decide⟩
theorem SNow_ok {h0 h : Heap} {l : List HP} {p : Nat} {D : Cfg} {u : Value} {s : Sag} (S : St h0 h (sagaA p D u s :: l)) : CallsH Tryz.prog 7 [.pointer (some ⟨p, 0, none⟩)] h fun v h' => v = .int .i64 s.now ∧ h' = h := by
 obtain ⟨k, t, o, rs, S⟩ := St.saga.1 S
 (refine eK c_saga_Saga_Now (l_a rfl) fun K hK => ?_; (try simp (disch := first|omega|assumption|exact l_a rfl) only [go_sem, ↓wBk, simprocAttr, ir_saga_Saga_Now]))
 ((try clear F); have F := S.all; (try simp only [aC, aN, yC, and_true] at F))
 (try simp (disch := first|omega|assumption|exact l_a rfl) only [go_sem, ↓wBk, simprocAttr, F, sagE])
 exact hK _ _ ⟨rfl, rfl⟩
theorem awake16_ok (h : Heap) : CallsH Tryz.prog 4 [] h fun v h' => v = .bool true ∧ Fr h h' [] := by
 have S := St.nil h
 (refine eK c_recouplaw16_awake (l_a rfl) fun K hK => ?_; (try simp (disch := first|omega|assumption|exact l_a rfl) only [go_sem, ↓wBk, simprocAttr, ir_recouplaw16_awake]))
 refine cI (NewS_ok c0C (fun h' S => ⟨Arr.nil _ _ _ _, (fun o ho => by cases ho), Arr.nil _ _ _ _, Arr.nil _ _ _ _⟩) ⟨by decide, by decide, by decide, by decide, by decide, by decide, fun o ho => by cases ho⟩ (by decide) (by decide) (by decide) (fun o ho => by cases ho) S) ?_
 clear S
 rintro _ h (⟨hn, _⟩ | ⟨_, p, D, u, rfl, hw, hp, S⟩)
 ·exact (hn c0_ok).elim
 obtain ⟨_, A, c, rfl, _⟩ := stcA_rd S.p1
 have hU : unitsAll c0C = [] := rfl
 have hD : Stc D (unitsAll c0C) := ⟨okCfg_pu hp.symm c0_ok, (by rw [hU]; intro u hu; cases hu), (by rw [hU]; intro u hu; cases hu), by rw [hU]; exact Nat.zero_le _⟩
 (try simp (disch := first|omega|assumption|exact l_a rfl) only [go_sem, ↓wBk, simprocAttr])
 refine cI (Theirs15_ok ⟨c7, none, 0⟩ (fun h' S => cArr) (by decide) S) ?_
 clear S
 rintro _ h ⟨y, rfl, hy, S⟩
 (try simp (disch := first|omega|assumption|exact l_a rfl) only [go_sem, ↓wBk, simprocAttr])
 have hi : y.c.i64 := by rw [hy]; exact ⟨by unfold I64 c7; decide, by unfold I64 c7; decide, fun u hu => absurd hu (by simp [c7]), by unfold I64 c7; decide, by unfold I64 c7; decide, by unfold I64 c7; decide, by unfold I64 c7; decide, by unfold I64 c7; decide, by unfold I64 c7; decide, by unfold I64 c7; decide⟩
 refine cI (Take_ok y (cu := c) (Au := A) (U := unitsAll c0C) (by simp) (fun h' S => by rw [hy]; exact cArr) (by rw [hy]; decide) hi hD S.p1 new_wf (by decide)) ?_
 clear S
 rintro _ h ⟨sl, rfl, S⟩
 rw [hy] at S ⊢
 obtain ⟨t1, t2⟩ := take_c7 (D := D)
 generalize takeP D (unitsAll c0C) (sagNew c0C) c7 = Y at *
 (try simp (disch := first|omega|assumption|exact l_a rfl) only [go_sem, ↓wBk, simprocAttr, t1])
 refine cI (SNow_ok S.p1) ?_
 rintro _ h ⟨rfl, rfl⟩
 rw [t2]
 (try simp (disch := first|omega|assumption|exact l_a rfl) only [go_sem, ↓wBk, simprocAttr])
 exact hK _ _ ⟨rfl, S.fr⟩
end
section
set_option maxHeartbeats 8000000
theorem SNow_nil (h : Heap) : CallsH Tryz.prog 7 [.pointer none] h fun v h' => v = .int .i64 0 ∧ h' = h := by
 (refine eK c_saga_Saga_Now (l_a rfl) fun K hK => ?_; (try simp (disch := first|omega|assumption|exact l_a rfl) only [go_sem, ↓wBk, simprocAttr, ir_saga_Saga_Now]))
 exact hK _ _ ⟨rfl, rfl⟩
theorem SUnits_nil (h : Heap) : CallsH Tryz.prog 9 [.pointer none] h fun v h' => v = .slice none 0 0 ∧ h' = h := by
 (refine eK c_saga_Saga_Units (l_a rfl) fun K hK => ?_; (try simp (disch := first|omega|assumption|exact l_a rfl) only [go_sem, ↓wBk, simprocAttr, ir_saga_Saga_Units]))
 exact hK _ _ ⟨rfl, rfl⟩
theorem SStock_nil (h : Heap) : CallsH Tryz.prog 10 [.pointer none] h fun v h' => v = .pointer none ∧ h' = h := by
 (refine eK c_saga_Saga_Stock (l_a rfl) fun K hK => ?_; (try simp (disch := first|omega|assumption|exact l_a rfl) only [go_sem, ↓wBk, simprocAttr, ir_saga_Saga_Stock]))
 exact hK _ _ ⟨rfl, rfl⟩
theorem SOutbox_nil (h : Heap) : CallsH Tryz.prog 11 [.pointer none] h fun v h' => v = .pointer none ∧ h' = h := by
 (refine eK c_saga_Saga_Outbox (l_a rfl) fun K hK => ?_; (try simp (disch := first|omega|assumption|exact l_a rfl) only [go_sem, ↓wBk, simprocAttr, ir_saga_Saga_Outbox]))
 exact hK _ _ ⟨rfl, rfl⟩
theorem STimers_nil (h : Heap) : CallsH Tryz.prog 12 [.pointer none] h fun v h' => v = .pointer none ∧ h' = h := by
 (refine eK c_saga_Saga_Timers (l_a rfl) fun K hK => ?_; (try simp (disch := first|omega|assumption|exact l_a rfl) only [go_sem, ↓wBk, simprocAttr, ir_saga_Saga_Timers]))
 exact hK _ _ ⟨rfl, rfl⟩
theorem SParts_nil (h : Heap) : CallsH Tryz.prog 13 [.pointer none] h fun v h' => v = .agg #[.slice none 0 0, .slice none 0 0, .slice none 0 0, .slice none 0 0, .slice none 0 0, .int .i64 0, .int .i64 0, .int .i64 0, .int .i64 0, .int .i64 0, .slice none 0 0, .slice none 0 0, .int .i64 0, .slice none 0 0, .int .i64 0] ∧ Fr h h' [] := by
 have S := St.nil h
 (refine eK c_saga_Saga_Parts (l_a rfl) fun K hK => ?_; (try simp (disch := first|omega|assumption|exact l_a rfl) only [go_sem, ↓wBk, simprocAttr, ir_saga_Saga_Parts]))
 (refine tA S ?_; clear S; intro g h S; (try simp only [sC, sN, l_h, l_i, Nat.zero_add, Nat.reduceAdd, l_j, l_k] at S); ((try clear F); have F := S.all; (try simp only [aC, aN, yC, and_true] at F)))
 (try simp (disch := first|omega|assumption|exact l_a rfl) only [go_sem, ↓wBk, simprocAttr])
 (refine tS (by first | exact S | exact S.p1 | exact S.p2 | exact S.p3 | exact S.p4 | exact S.p5 | exact S.p6 | exact S.p7 | exact S.p8 | exact S.p9 | exact S.p10 | exact S.p11) (by rfl) (by rfl) (l_a rfl) ?_; clear S; intro h S; (try simp only [sC, sN, l_h, l_i, Nat.zero_add, Nat.reduceAdd, l_j, l_k] at S); ((try clear F); have F := S.all; (try simp only [aC, aN, yC, and_true] at F)))
 (try simp (disch := first|omega|assumption|exact l_a rfl) only [go_sem, ↓wBk, simprocAttr, F])
 exact hK _ _ ⟨rfl, S.fr⟩
theorem SagaNil_ok (x : CmdV) (h : Heap) (ok : x.ok h) : CallsH Tryz.prog 3 [.agg x.enc.toArray] h fun v h' => v = .bool true ∧ Fr h h' [] := by
 have S := St.nil h
 have ha := ok.us
 have hl := ok.lt
 have ha' : ∀ {h' : Heap} {l : List HP}, St h h' l → Arr zEnc 1 h' x.A x.c.us := fun S => ha.fr S.fr (by simp)
 (refine eK c_recouplaw16_SagaNil (l_a rfl) fun K hK => ?_; (try simp (disch := first|omega|assumption|exact l_a rfl) only [go_sem, ↓wBk, simprocAttr, ir_recouplaw16_SagaNil]))
 (refine tA S ?_; clear S; intro g h S; (try simp only [sC, sN, l_h, l_i, Nat.zero_add, Nat.reduceAdd, l_j, l_k] at S); ((try clear F); have F := S.all; (try simp only [aC, aN, yC, and_true] at F)))
 (try simp (disch := first|omega|assumption|exact l_a rfl) only [go_sem, ↓wBk, simprocAttr])
 refine cI (awake16_ok _) ?_
 rintro _ h ⟨rfl, f1⟩
 have S := S.frame f1
 clear f1
 have S : St _ h [cellA g x.enc 24] := S
 ((try clear F); have F := S.all; (try simp only [aC, aN, yC, and_true] at F))
 by_cases hn : 100 < (x.c.us.length : Int)
 ·(try simp (disch := first|omega|assumption|exact l_a rfl) only [go_sem, ↓wBk, simprocAttr, F, CmdV.enc, hn])
  refine cI (awake16_ok _) ?_
  rintro _ h ⟨rfl, f1⟩
  (try simp (disch := first|omega|assumption|exact l_a rfl) only [go_sem, ↓wBk, simprocAttr])
  exact hK _ _ ⟨rfl, (S.frame f1).fr⟩
 (try simp (disch := first|omega|assumption|exact l_a rfl) only [go_sem, ↓wBk, simprocAttr, F, CmdV.enc, hn])
 refine cI (Theirs15_ok x (fun h' S => ha' S) (by omega) S) ?_
 clear S F
 rintro _ h ⟨y, rfl, _, S⟩
 (try simp (disch := first|omega|assumption|exact l_a rfl) only [go_sem, ↓wBk, simprocAttr])
 refine cI (Take_nil y _) ?_
 rintro _ h ⟨rfl, f1⟩
 have S := S.frame f1
 clear f1
 (try simp (disch := first|omega|assumption|exact l_a rfl) only [go_sem, ↓wBk, simprocAttr])
 refine cI (SNow_nil _) ?_
 rintro _ _ ⟨rfl, rfl⟩
 (try simp (disch := first|omega|assumption|exact l_a rfl) only [go_sem, ↓wBk, simprocAttr])
 refine cI (RMAs_nil _) ?_
 rintro _ _ ⟨rfl, rfl⟩
 (try simp (disch := first|omega|assumption|exact l_a rfl) only [go_sem, ↓wBk, simprocAttr])
 refine cI (SUnits_nil _) ?_
 rintro _ _ ⟨rfl, rfl⟩
 (try simp (disch := first|omega|assumption|exact l_a rfl) only [go_sem, ↓wBk, simprocAttr])
 refine cI (SStock_nil _) ?_
 rintro _ _ ⟨rfl, rfl⟩
 (try simp (disch := first|omega|assumption|exact l_a rfl) only [go_sem, ↓wBk, simprocAttr])
 refine cI (SOutbox_nil _) ?_
 rintro _ _ ⟨rfl, rfl⟩
 (try simp (disch := first|omega|assumption|exact l_a rfl) only [go_sem, ↓wBk, simprocAttr])
 refine cI (STimers_nil _) ?_
 rintro _ _ ⟨rfl, rfl⟩
 (try simp (disch := first|omega|assumption|exact l_a rfl) only [go_sem, ↓wBk, simprocAttr])
 refine cI (SParts_nil _) ?_
 rintro _ h ⟨rfl, f1⟩
 have S := S.frame f1
 clear f1
 (try simp (disch := first|omega|assumption|exact l_a rfl) only [go_sem, ↓wBk, simprocAttr])
 refine cI (Ledger_nil _) ?_
 rintro _ h ⟨rfl, f1⟩
 have S := S.frame f1
 clear f1
 (try simp (disch := first|omega|assumption|exact l_a rfl) only [go_sem, ↓wBk, simprocAttr])
 exact hK _ _ ⟨rfl, S.fr⟩
end
end Go.Proofs.YtijnkebgciaieaaGreat.MX
