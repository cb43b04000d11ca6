import Derived.Test.YtijnkebgciaieaaGreatK33
namespace Go.Proofs.YtijnkebgciaieaaGreat.MX
open Go Go.Proofs
set_option linter.unusedSimpArgs false
set_option linter.unusedVariables false
section
set_option maxHeartbeats 8000000
section
variable {h0 h : Heap} {l : List HP} {L : Loc} {D : Cfg} {u : Value} {w : Wk} {U : List Unt} {m b i : Nat}
theorem paid_ok (sum : Int) (yes : Bool) (S : St h0 h (wkA L D u w :: l)) (hA : L.A = some ⟨b, 0, none⟩) (hi : i < w.s.R.length) : CallsH Tryz.prog 84 [.pointer (some ⟨L.p, 0, none⟩), .pointer (some ⟨b, i * 14, none⟩), .int .i64 sum, .bool yes] h fun v h' => resE h0 L D u l (paidP w i sum yes) v h' := by
 cases yes with
 | false =>
  have hd : paidP w i sum false = creditP w i sum := rfl
  rw [hd]
  (refine eK c_saga_Saga_paid (l_a rfl) fun K hK => ?_; (try simp (disch := first|omega|assumption|exact l_a rfl) only [go_sem, ↓wBk, simprocAttr, ir_saga_Saga_paid]))
  (try simp (disch := first|omega|assumption|exact l_a rfl) only [go_sem, ↓wBk, simprocAttr])
  refine cI (credit_ok sum S hA hi) ?_
  intro v h hv
  (try simp (disch := first|omega|assumption|exact l_a rfl) only [go_sem, ↓wBk, simprocAttr])
  exact hK _ _ hv
 | true =>
  have hd : paidP w i sum true = wpost (w.put i { w.R i with paid := w64 ((w.R i).paid + sum) }) 1 2 sum := rfl
  rw [hd]
  obtain ⟨x, hx, hrd, _, _, _⟩ := S.wkRet hA hi
  have q := hrd 11 (by omega)
  simp only [RetV.enc, l_o, l_p, hx] at q
  (refine eK c_saga_Saga_paid (l_a rfl) fun K hK => ?_; (try simp (disch := first|omega|assumption|exact l_a rfl) only [go_sem, ↓wBk, simprocAttr, ir_saga_Saga_paid]))
  (try simp (disch := first|omega|assumption|exact l_a rfl) only [go_sem, ↓wBk, simprocAttr, q])
  refine st_wkSet (r' := { w.R i with paid := w64 ((w.R i).paid + sum) }) S hA hi (j := 11) (by omega) rfl rfl rfl (fun x hx => by rw [RetV.enc, RetV.enc, hx]; rfl) ?_
  clear S hrd q
  intro h S
  (try simp (disch := first|omega|assumption|exact l_a rfl) only [go_sem, ↓wBk, simprocAttr])
  refine cI (post_ok 1 2 sum (by omega) S) ?_
  clear S
  intro v h hv
  (try simp (disch := first|omega|assumption|exact l_a rfl) only [go_sem, ↓wBk, simprocAttr])
  exact hK _ _ hv
theorem shipped_ok (yes : Bool) (hc : ∀ h', St h0 h' l → D.rd h') (hD : Stc D U) (S : St h0 h (wkA L D u w :: l)) (W : w.wf U m) (hm : m < 400000) (hA : L.A = some ⟨b, 0, none⟩) (hi : i < w.s.R.length) : CallsH Tryz.prog 85 [.pointer (some ⟨L.p, 0, none⟩), .pointer (some ⟨b, i * 14, none⟩), .bool yes] h fun v h' => resE h0 L D u l (shippedP D.ss w i yes) v h' := by
 have hss := hD.cfg.len.2.1
 have hkl := W.kl
 have hul := hD.ul
 obtain ⟨x, hx, hrd, _, _, _⟩ := S.wkRet hA hi
 obtain ⟨sd, M, Sc, _⟩ := S.wkCell
 have F := Sc.all
 simp only [aC, aN, yC, and_true] at F
 have q3 := hrd 3 (by omega)
 simp only [RetV.enc, l_o, l_p, hx] at q3
 (refine eK c_saga_Saga_shipped (l_a rfl) fun K hK => ?_; (try simp (disch := first|omega|assumption|exact l_a rfl) only [go_sem, ↓wBk, simprocAttr, ir_saga_Saga_shipped]))
 refine dE ?_
 (try simp (disch := first|omega|assumption|exact l_a rfl) only [go_sem, ↓wBk, simprocAttr, F, sagE, q3])
 rw [show [Value.slice D.A1 D.os.length D.c1, .slice D.A2 D.ss.length D.c2, .slice D.A3 D.ps.length D.c3] = D.enc from rfl]
 refine cI (OPrice_ok D _ (hc _ S.tl).ss (by omega)) ?_
 clear Sc F hrd q3 hx
 rintro _ h ⟨rfl, f1⟩
 have S := S.frame f1
 clear f1
 obtain ⟨price, hpr⟩ : ∃ price, price = (priceOf D.ss (w.R i).want).getD 0 := ⟨_, rfl⟩
 rw [← hpr]
 cases yes with
 | false =>
  have hd : shippedP D.ss w i false = payP (releaseP w i) i price := by rw [hpr]; rfl
  rw [hd] at hK
  (try simp (disch := first|omega|assumption|exact l_a rfl) only [go_sem, ↓wBk, simprocAttr])
  refine cI (release_ok S W hul hA hi) ?_
  clear S
  intro v h S
  (try simp (disch := first|omega|assumption|exact l_a rfl) only [go_sem, ↓wBk, simprocAttr])
  refine cI (pay_ok price S (W.release hi) (by omega) hA (by rw [release_len]; exact hi)) ?_
  clear S
  intro v h hv
  (try simp (disch := first|omega|assumption|exact l_a rfl) only [go_sem, ↓wBk, simprocAttr])
  exact hK _ _ hv
 | true =>
  obtain ⟨w1, hw1⟩ : ∃ w1, w1 = w.put i { w.R i with given := w64 ((w.R i).given + price) } := ⟨_, rfl⟩
  have hd : shippedP D.ss w i true = if moveE w1.s.K (w1.R i).res 8 = 0 then wpost (w1.mv (w1.R i).res 8) 1 4 price else .error (moveE w1.s.K (w1.R i).res 8) := by rw [hw1, hpr]; rfl
  rw [hd] at hK
  have W1 : w1.wf U m := by rw [hw1]; exact W.putR hi rfl rfl
  have hi1 : i < w1.s.R.length := by rw [hw1, put_len]; exact hi
  obtain ⟨x, hx, hrd, _, _, _⟩ := S.wkRet hA hi
  have q := hrd 13 (by omega)
  simp only [RetV.enc, l_o, l_p, hx] at q
  (try simp (disch := first|omega|assumption|exact l_a rfl) only [go_sem, ↓wBk, simprocAttr, q])
  refine st_wkSet (r' := { w.R i with given := w64 ((w.R i).given + price) }) S hA hi (j := 13) (by omega) rfl rfl rfl (fun x hx => by rw [RetV.enc, RetV.enc, hx]; rfl) ?_
  clear S hrd q hx
  intro h S
  rw [← hw1] at S
  clear hw1 hd
  have hkl1 := W1.kl
  obtain ⟨x, hx, hrd, _, _, _⟩ := S.wkRet hA hi1
  have q4 := hrd 4 (by omega)
  simp only [RetV.enc, l_o, l_p, hx] at q4
  obtain ⟨sd, M, Sc, _⟩ := S.wkCell
  have F := Sc.all
  simp only [aC, aN, yC, and_true] at F
  (try simp (disch := first|omega|assumption|exact l_a rfl) only [go_sem, ↓wBk, simprocAttr])
  refine dE ?_
  (try simp (disch := first|omega|assumption|exact l_a rfl) only [go_sem, ↓wBk, simprocAttr, q4, F, sagE])
  clear Sc F hrd q4 hx
  obtain ⟨M, Sk, back⟩ := S.wkStock
  refine cI (Move_ok _ 8 Sk (by omega)) ?_
  clear S Sk
  rintro _ h ⟨rfl, Sk⟩
  have S := back _ _ Sk
  clear back Sk
  by_cases he : moveE w1.s.K (w1.R i).res 8 = 0
  ·rw [if_pos he] at hK
   (try simp (disch := first|omega|assumption|exact l_a rfl) only [go_sem, ↓wBk, simprocAttr])
   refine cI (post_ok 1 4 price (by omega) S) ?_
   clear S
   intro v h hv
   (try simp (disch := first|omega|assumption|exact l_a rfl) only [go_sem, ↓wBk, simprocAttr])
   exact hK _ _ hv
  ·rw [if_neg he] at hK
   (try simp (disch := first|omega|assumption|exact l_a rfl) only [go_sem, ↓wBk, simprocAttr])
   exact hK _ _ ⟨he, rfl, S.tl⟩
theorem idx_find {O : List Msg} {key : Int} : (idxOf (fun m : Msg => decide (m.key = key)) O 0 = -1 → O.findIdx? (fun m => decide (m.key = key)) = none) ∧ ∀ j : Nat, j < O.length → idxOf (fun m : Msg => decide (m.key = key)) O 0 = j → O.findIdx? (fun m => decide (m.key = key)) = some j := by
 rcases idxOf_spec (fun m : Msg => decide (m.key = key)) O 0 with ⟨hx, hall⟩ | ⟨k, hx, hkl, hbef, hat⟩
 ·refine ⟨fun _ => ?_, fun j hj h => ?_⟩
  ·rw [List.findIdx?_eq_none_iff]
   exact hall
  ·have hx : idxOf (fun m : Msg => decide (m.key = key)) O 0 = -1 := hx
   rw [hx] at h; omega
 ·have hx : idxOf (fun m : Msg => decide (m.key = key)) O 0 = (k : Int) := by simpa using hx
  refine ⟨fun h => ?_, fun j hj h => ?_⟩
  ·rw [hx] at h; omega
  ·rw [hx] at h
   obtain rfl : k = j := by omega
   rw [List.findIdx?_eq_some_iff_getElem]
   refine ⟨hj, hat _ (l_r hj), fun i hi => ?_⟩
   have := hbef (O[i]'(by omega)) (by
    rw [List.mem_take_iff_getElem]
    exact ⟨i, by omega, rfl⟩)
   rw [this]
   decide
end
end
section
set_option maxHeartbeats 8000000
section
variable {h0 h : Heap} {l : List HP} {L : Loc} {D : Cfg} {u : Value} {w : Wk} {U : List Unt} {m b i : Nat}
theorem reply_ok (key : Int) (yes : Bool) (hc : ∀ h', St h0 h' l → D.rd h') (hD : Stc D U) (S : St h0 h (wkA L D u w :: l)) (W : w.wf U m) (hm : m < 400000) : CallsH Tryz.prog 44 [.pointer (some ⟨L.p, 0, none⟩), .int .i64 key, .bool yes] h fun v h' => resE h0 L D u l (replyP D.ss w key yes) v h' := by
 have hol := W.ol
 have hul := hD.ul
 obtain ⟨sd, M, Sc, _⟩ := S.wkCell
 have F := Sc.all
 simp only [aC, aN, yC, and_true] at F
 (refine eK c_saga_Saga_reply (l_a rfl) fun K hK => ?_; (try simp (disch := first|omega|assumption|exact l_a rfl) only [go_sem, ↓wBk, simprocAttr, ir_saga_Saga_reply]))
 (try simp (disch := first|omega|assumption|exact l_a rfl) only [go_sem, ↓wBk, simprocAttr, F, sagE])
 clear Sc F
 obtain ⟨M, So, back⟩ := S.wkObx
 refine cI (HeardO_ok key So (by omega)) ?_
 clear S So
 rintro _ h (⟨hn, rfl, So⟩ | ⟨j, hj, hix, rfl, So⟩)
 ·have hd : replyP D.ss w key yes = .error 16 := by rw [replyP, idx_find.1 hn]
  rw [hd] at hK
  have S := back _ _ _ So
  (try simp (disch := first|omega|assumption|exact l_a rfl) only [go_sem, ↓wBk, simprocAttr, Msg.enc, Msg.zero])
  (refine tA S ?_; clear S; intro q h S; (try simp only [sC, sN, l_h, l_i, Nat.zero_add, Nat.reduceAdd, l_j, l_k] at S); ((try clear F); have F := S.all; (try simp only [aC, aN, yC, and_true] at F)))
  (try simp (disch := first|omega|assumption|exact l_a rfl) only [go_sem, ↓wBk, simprocAttr])
  refine tS S rfl rfl (l_a rfl) ?_
  clear S F
  intro h S
  (try simp (disch := first|omega|assumption|exact l_a rfl) only [go_sem, ↓wBk, simprocAttr])
  exact hK _ _ ⟨by decide, rfl, S.tl.tl⟩
 have hidx := idx_find.2 j hj hix
 obtain ⟨w1, hw1⟩ : ∃ w1 : Wk, w1 = { w with s := { w.s with O := w.s.O.take j ++ w.s.O.drop (j + 1) } } := ⟨_, rfl⟩
 obtain ⟨x, hxm⟩ : ∃ x : Msg, x = w.s.O[j] := ⟨_, rfl⟩
 have hgd : w.s.O.getD j Msg.zero = x := by rw [hxm, l_s, l_r hj]; rfl
 have S : St h0 h (wkA L D u w1 :: l) := by rw [hw1]; exact back _ _ _ So
 clear back So
 have hsub : (w.s.O.take j ++ w.s.O.drop (j + 1)).Sublist w.s.O := by
  conv => rhs; rw [← List.take_append_drop j w.s.O]
  exact List.Sublist.append_left (by rw [← List.drop_drop]; exact List.drop_sublist _ _) _
 have W1 : w1.wf U m := by
  rw [hw1]
  exact ⟨W.kl, W.rl, W.rr, W.tg, W.tn, Nat.le_trans hsub.length_le W.ol, fun x hx => W.ot x (hsub.subset hx), W.key, W.sl, W.now⟩
 have hd : replyP D.ss w key yes = match w1.s.at_ x.rma with
  | none => .error 7
  | some _ => if x.kind = 1 ∧ yes = false then endP w1 x.rma 8 else
    (if x.kind = 1 then stepP w1 x.rma 1 else if x.kind = 2 then paidP w1 (x.rma - 1).toNat x.value yes else if x.kind = 3 then shippedP D.ss w1 (x.rma - 1).toNat yes
     else if moveE w1.s.K x.value (backTo yes) = 0 then .ok (w1.mv x.value (backTo yes)) else .error (moveE w1.s.K x.value (backTo yes))).map fun w2 => closeP w2 (x.rma - 1).toNat := by
  unfold replyP
  rw [hidx]
  simp only [hgd]
  rw [hw1]
  rfl
 rw [hd] at hK
 clear hd hw1 hgd hidx hix hsub
 rw [← hxm]
 clear hxm hj hol W
 (try simp (disch := first|omega|assumption|exact l_a rfl) only [go_sem, ↓wBk, simprocAttr, Msg.enc])
 (refine tA S ?_; clear S; intro q h S; (try simp only [sC, sN, l_h, l_i, Nat.zero_add, Nat.reduceAdd, l_j, l_k] at S); ((try clear F); have F := S.all; (try simp only [aC, aN, yC, and_true] at F)))
 (try simp (disch := first|omega|assumption|exact l_a rfl) only [go_sem, ↓wBk, simprocAttr])
 refine tS S rfl rfl (l_a rfl) ?_
 clear S F
 intro h S
 (try simp only [sC, sN, l_h, l_i, Nat.zero_add, Nat.reduceAdd, l_j, l_k] at S)
 have S : St h0 h (wkA L D u w1 :: cellA q x.enc 110 :: l) := S.p1
 have hc' : ∀ h', St h0 h' (cellA q x.enc 110 :: l) → D.rd h' := fun h' S => hc h' S.tl
 ((try clear F); have F := S.all; (try simp only [aC, aN, yC, and_true] at F))
 (try simp (disch := first|omega|assumption|exact l_a rfl) only [go_sem, ↓wBk, simprocAttr, F, Msg.enc])
 refine cI (of_ok x.rma S W1) ?_
 rintro _ _ ⟨rfl, ⟨hn, rfl⟩ | ⟨i, b, hnum, hni, hi, hat, hA, rfl⟩⟩
 ·rw [hn] at hK
  (try simp (disch := first|omega|assumption|exact l_a rfl) only [go_sem, ↓wBk, simprocAttr])
  exact hK _ _ ⟨by decide, rfl, S.tl.tl⟩
 rw [hat, hni] at hK
 have hkl := W1.kl
 by_cases k1 : x.kind = 1
 ·cases yes with
  | false =>
   simp only [k1, and_self, if_true] at hK
   (try simp (disch := first|omega|assumption|exact l_a rfl) only [go_sem, ↓wBk, simprocAttr, F, Msg.enc])
   refine cI (end_ok x.rma 8 S W1 (by omega) hul) ?_
   clear S F
   intro v h hv
   (try simp (disch := first|omega|assumption|exact l_a rfl) only [go_sem, ↓wBk, simprocAttr])
   refine hK _ _ ?_
   cases hp : endP w1 x.rma 8 with
   | error e =>
    rw [hp] at hv
    exact ⟨hv.1, hv.2.1, hv.2.2.tl⟩
   | ok w2 =>
    rw [hp] at hv
    exact ⟨hv.1, hv.2.d1⟩
  | true =>
   simp only [k1, Bool.true_eq_false, and_false, if_false, if_true] at hK
   (try simp (disch := first|omega|assumption|exact l_a rfl) only [go_sem, ↓wBk, simprocAttr, F, Msg.enc])
   refine cI (step_ok x.rma 1 S W1) ?_
   clear S F
   intro v h hv
   cases hp : stepP w1 x.rma 1 with
   | error e =>
    rw [hp] at hv hK
    obtain ⟨he, rfl, S⟩ := hv
    (try simp (disch := first|omega|assumption|exact l_a rfl) only [go_sem, ↓wBk, simprocAttr])
    exact hK _ _ ⟨he, rfl, S.tl⟩
   | ok w2 =>
    rw [hp] at hv hK
    obtain ⟨i', b', hnum', hni', hi', hA', rfl, S⟩ := hv
    obtain ⟨W2, l2, _⟩ := step_wf hp W1
    (try simp (disch := first|omega|assumption|exact l_a rfl) only [go_sem, ↓wBk, simprocAttr])
    refine cI (close_ok S W2 (by omega) hA (by omega)) ?_
    clear S
    rintro _ h ⟨rfl, S⟩
    (try simp (disch := first|omega|assumption|exact l_a rfl) only [go_sem, ↓wBk, simprocAttr])
    exact hK _ _ ⟨rfl, S.d1⟩
 have hk1 : ∀ yes, ¬ (x.kind = 1 ∧ yes = false) := fun _ h => k1 h.1
 simp only [k1, false_and, if_false] at hK
 by_cases k2 : x.kind = 2
 ·rw [if_pos k2] at hK
  (try simp (disch := first|omega|assumption|exact l_a rfl) only [go_sem, ↓wBk, simprocAttr, F, Msg.enc])
  refine cI (paid_ok x.value yes S hA hi) ?_
  clear S F
  intro v h hv
  cases hp : paidP w1 i x.value yes with
  | error e =>
   rw [hp] at hv hK
   obtain ⟨he, rfl, S⟩ := hv
   (try simp (disch := first|omega|assumption|exact l_a rfl) only [go_sem, ↓wBk, simprocAttr])
   exact hK _ _ ⟨he, rfl, S.tl⟩
  | ok w2 =>
   rw [hp] at hv hK
   obtain ⟨rfl, S⟩ := hv
   obtain ⟨W2, l2⟩ := paid_wf hi hp W1
   (try simp (disch := first|omega|assumption|exact l_a rfl) only [go_sem, ↓wBk, simprocAttr])
   refine cI (close_ok S W2 (by omega) hA (by omega)) ?_
   clear S
   rintro _ h ⟨rfl, S⟩
   (try simp (disch := first|omega|assumption|exact l_a rfl) only [go_sem, ↓wBk, simprocAttr])
   exact hK _ _ ⟨rfl, S.d1⟩
 rw [if_neg k2] at hK
 by_cases k3 : x.kind = 3
 ·rw [if_pos k3] at hK
  (try simp (disch := first|omega|assumption|exact l_a rfl) only [go_sem, ↓wBk, simprocAttr, F, Msg.enc])
  refine cI (shipped_ok yes hc' hD S W1 hm hA hi) ?_
  clear S F
  intro v h hv
  cases hp : shippedP D.ss w1 i yes with
  | error e =>
   rw [hp] at hv hK
   obtain ⟨he, rfl, S⟩ := hv
   (try simp (disch := first|omega|assumption|exact l_a rfl) only [go_sem, ↓wBk, simprocAttr])
   exact hK _ _ ⟨he, rfl, S.tl⟩
  | ok w2 =>
   rw [hp] at hv hK
   obtain ⟨rfl, S⟩ := hv
   obtain ⟨W2, l2⟩ := shipped_wf hi hp W1
   (try simp (disch := first|omega|assumption|exact l_a rfl) only [go_sem, ↓wBk, simprocAttr])
   refine cI (close_ok S W2 (by omega) hA (by omega)) ?_
   clear S
   rintro _ h ⟨rfl, S⟩
   (try simp (disch := first|omega|assumption|exact l_a rfl) only [go_sem, ↓wBk, simprocAttr])
   exact hK _ _ ⟨rfl, S.d1⟩
 rw [if_neg k3] at hK
 obtain ⟨sd, M, Sc, _⟩ := S.wkCell
 have F2 := Sc.all
 simp only [aC, aN, yC, and_true] at F2
 cases yes with
 | true =>
  rw [show backTo true = 0 from rfl] at hK
  (try simp (disch := first|omega|assumption|exact l_a rfl) only [go_sem, ↓wBk, simprocAttr, F, Msg.enc])
  refine dE ?_
  (try simp (disch := first|omega|assumption|exact l_a rfl) only [go_sem, ↓wBk, simprocAttr, F, F2, sagE, Msg.enc])
  clear Sc F2 F
  obtain ⟨M, Sk, back⟩ := S.wkStock
  refine cI (Move_ok x.value 0 Sk (by omega)) ?_
  clear S Sk
  rintro _ h ⟨rfl, Sk⟩
  have S := back _ _ Sk
  clear back Sk
  by_cases he : moveE w1.s.K x.value 0 = 0
  ·rw [if_pos he] at hK
   (try simp (disch := first|omega|assumption|exact l_a rfl) only [go_sem, ↓wBk, simprocAttr, he])
   refine cI (close_ok S (W1.mv _ _) (by omega) hA hi) ?_
   clear S
   rintro _ h ⟨rfl, S⟩
   (try simp (disch := first|omega|assumption|exact l_a rfl) only [go_sem, ↓wBk, simprocAttr])
   exact hK _ _ ⟨rfl, S.d1⟩
  ·rw [if_neg he] at hK
   (try simp (disch := first|omega|assumption|exact l_a rfl) only [go_sem, ↓wBk, simprocAttr])
   exact hK _ _ ⟨he, rfl, S.tl.tl⟩
 | false =>
  rw [show backTo false = 6 from rfl] at hK
  (try simp (disch := first|omega|assumption|exact l_a rfl) only [go_sem, ↓wBk, simprocAttr, F, Msg.enc])
  refine dE ?_
  (try simp (disch := first|omega|assumption|exact l_a rfl) only [go_sem, ↓wBk, simprocAttr, F, F2, sagE, Msg.enc])
  clear Sc F2 F
  obtain ⟨M, Sk, back⟩ := S.wkStock
  refine cI (Move_ok x.value 6 Sk (by omega)) ?_
  clear S Sk
  rintro _ h ⟨rfl, Sk⟩
  have S := back _ _ Sk
  clear back Sk
  by_cases he : moveE w1.s.K x.value 6 = 0
  ·rw [if_pos he] at hK
   (try simp (disch := first|omega|assumption|exact l_a rfl) only [go_sem, ↓wBk, simprocAttr, he])
   refine cI (close_ok S (W1.mv _ _) (by omega) hA hi) ?_
   clear S
   rintro _ h ⟨rfl, S⟩
   (try simp (disch := first|omega|assumption|exact l_a rfl) only [go_sem, ↓wBk, simprocAttr])
   exact hK _ _ ⟨rfl, S.d1⟩
  ·rw [if_neg he] at hK
   (try simp (disch := first|omega|assumption|exact l_a rfl) only [go_sem, ↓wBk, simprocAttr])
   exact hK _ _ ⟨he, rfl, S.tl.tl⟩
end
end
section
set_option maxHeartbeats 8000000
theorem To_ok (p : Pol) (g : Int) (hp : p.right) (hg : isR g) (h : Heap) : CallsH Tryz.prog 76 [.agg p.enc.toArray, .int .i64 g] h fun v h' => v = .tuple #[.int .i64 (p.gto g), .int .i64 0] ∧ Fr h h' [] := by
 have S := St.nil h
 (refine eK c_rule_To (l_a rfl) fun K hK => ?_; (try simp (disch := first|omega|assumption|exact l_a rfl) only [go_sem, ↓wBk, simprocAttr, ir_rule_To]))
 (refine tA S ?_; clear S; intro b h S; (try simp only [sC, sN, l_h, l_i, Nat.zero_add, Nat.reduceAdd, l_j, l_k] at S); ((try clear F); have F := S.all; (try simp only [aC, aN, yC, and_true] at F)))
 (try simp (disch := first|omega|assumption|exact l_a rfl) only [go_sem, ↓wBk, simprocAttr, F, Pol.enc])
 refine cI (rright_ok p _) ?_
 rintro _ h ⟨rfl, f1⟩
 have S := S.frame f1
 rw [dT hp]
 (try simp (disch := first|omega|assumption|exact l_a rfl) only [go_sem, ↓wBk, simprocAttr])
 refine cI (ris_ok g _) ?_
 rintro _ _ ⟨rfl, rfl⟩
 rw [dT hg]
 ((try clear F); have F := S.all; (try simp only [aC, aN, yC, and_true] at F))
 rcases isR4 hg with rfl | rfl | rfl | rfl <;>
 ·(try simp (disch := first|omega|assumption|exact l_a rfl) only [go_sem, ↓wBk, simprocAttr, F, Pol.enc])
  exact hK _ _ ⟨by simp [Pol.gto], S.fr⟩
theorem Graded_ok {h0 : Heap} (x : RetV) (hb : Arr zEnc 1 h0 x.B x.r.gs) (l2 : x.r.gs.length < 1000000) (hl : x.r.gs.length = x.r.us.length) : CallsH Tryz.prog 78 [.agg x.enc.toArray] h0 fun v h' => v = .bool (!dcd ((-1 : Int) ∈ x.r.gs)) ∧ Fr h0 h' [] := by
 have S := St.nil h0
 have hl' : (x.r.gs.length : Int) = x.r.us.length := by omega
 (refine eK c_rma_Graded (l_a rfl) fun K hK => ?_; (try simp (disch := first|omega|assumption|exact l_a rfl) only [go_sem, ↓wBk, simprocAttr, ir_rma_Graded]))
 (refine tA S ?_; clear S; intro b h S; (try simp only [sC, sN, l_h, l_i, Nat.zero_add, Nat.reduceAdd, l_j, l_k] at S); ((try clear F); have F := S.all; (try simp only [aC, aN, yC, and_true] at F)))
 (try simp (disch := first|omega|assumption|exact l_a rfl) only [go_sem, ↓wBk, simprocAttr, F, RetV.enc])
 refine cI (ContainsI_ok (-1) (hb.fr S.fr (by simp)) l2) ?_
 rintro _ _ ⟨rfl, rfl⟩
 (try simp (disch := first|omega|assumption|exact l_a rfl) only [go_sem, ↓wBk, simprocAttr])
 exact hK _ _ ⟨rfl, S.fr⟩
theorem Has_ok {h0 : Heap} (x : RetV) (ha : Arr zEnc 1 h0 x.A x.r.us) (l1 : x.r.us.length < 1000000) (v : Int) : CallsH Tryz.prog 108 [.agg x.enc.toArray, .int .i64 v] h0 fun r h' => r = .int .i64 (ixI x.r.us v) ∧ Fr h0 h' [] := by
 have S := St.nil h0
 (refine eK c_rma_Has (l_a rfl) fun K hK => ?_; (try simp (disch := first|omega|assumption|exact l_a rfl) only [go_sem, ↓wBk, simprocAttr, ir_rma_Has]))
 (refine tA S ?_; clear S; intro b h S; (try simp only [sC, sN, l_h, l_i, Nat.zero_add, Nat.reduceAdd, l_j, l_k] at S); ((try clear F); have F := S.all; (try simp only [aC, aN, yC, and_true] at F)))
 (try simp (disch := first|omega|assumption|exact l_a rfl) only [go_sem, ↓wBk, simprocAttr, F, RetV.enc])
 refine cI (Index_ok v (ha.fr S.fr (by simp)) l1) ?_
 rintro _ _ ⟨rfl, rfl⟩
 (try simp (disch := first|omega|assumption|exact l_a rfl) only [go_sem, ↓wBk, simprocAttr])
 exact hK _ _ ⟨rfl, S.fr⟩
noncomputable def resG (h0 : Heap) (l : List HP) (r : Ret) (grade : Int) (x : Except Int Nat) (v : Value) (h' : Heap) : Prop := match x with
 | .error e => e ≠ 0 ∧ v = .tuple #[.agg zR.enc.toArray, .int .i64 e] ∧ St h0 h' l
 | .ok j => j < r.us.length ∧ ∃ y : RetV, y.r = { r with gs := r.gs.set j grade } ∧ v = .tuple #[.agg y.enc.toArray, .int .i64 0] ∧ St h0 h' (retRow y :: l)
section
variable {h0 h : Heap} {l : List HP}
theorem RGrade_ok (x : RetV) (unit grade : Int) (ha : ∀ h', St h0 h' l → Arr zEnc 1 h' x.A x.r.us) (hb : ∀ h', St h0 h' l → Arr zEnc 1 h' x.B x.r.gs) (l1 : x.r.us.length < 1000000) (l2 : x.r.gs.length < 1000000) (hgl : x.r.gs.length = x.r.us.length) (S : St h0 h l) :
  CallsH Tryz.prog 74 [.agg x.enc.toArray, .int .i64 unit, .int .i64 grade] h fun v h' => resG h0 l x.r grade (gradeE x.r unit grade) v h' := by
 have hd : gradeE x.r unit grade = if dcd (x.r.right ∧ btw grade 0 4) = false then .error 1 else match x.r.us.findIdx? fun u => decide (u = unit) with
  | none => .error 7
  | some j => if x.r.gs.getD j 0 ≠ -1 then .error 8 else .ok j := rfl
 (refine eK c_rma_Grade (l_a rfl) fun K hK => ?_; (try simp (disch := first|omega|assumption|exact l_a rfl) only [go_sem, ↓wBk, simprocAttr, ir_rma_Grade]))
 (refine tA S ?_; clear S; intro b h S; (try simp only [sC, sN, l_h, l_i, Nat.zero_add, Nat.reduceAdd, l_j, l_k] at S); ((try clear F); have F := S.all; (try simp only [aC, aN, yC, and_true] at F)))
 (try simp (disch := first|omega|assumption|exact l_a rfl) only [go_sem, ↓wBk, simprocAttr])
 (refine tA S ?_; clear S; intro g h S; (try simp only [sC, sN, l_h, l_i, Nat.zero_add, Nat.reduceAdd, l_j, l_k] at S); ((try clear F); have F := S.all; (try simp only [aC, aN, yC, and_true] at F)))
 (try simp (disch := first|omega|assumption|exact l_a rfl) only [go_sem, ↓wBk, simprocAttr, F])
 refine cI (Has_ok x (ha _ S.tl.tl) l1 unit) ?_
 rintro _ h ⟨rfl, f1⟩
 have S := S.frame f1
 clear f1
 have S : St h0 h (cellA g zR.enc 66 :: cellA b x.enc 66 :: l) := S
 ((try clear F); have F := S.all; (try simp only [aC, aN, yC, and_true] at F))
 (try simp (disch := first|omega|assumption|exact l_a rfl) only [go_sem, ↓wBk, simprocAttr, F, RetV.enc])
 refine cI (RmaRight_ok x (ha _ S.tl.tl) (hb _ S.tl.tl) l1 l2) ?_
 rintro _ h ⟨rfl, f1⟩
 have S := S.frame f1
 clear f1 F
 by_cases hr : x.r.right
 case neg =>
  rw [if_pos (dF fun h => hr h.1)] at hd
  rw [hd] at hK
  rw [dF hr]
  (try simp (disch := first|omega|assumption|exact l_a rfl) only [go_sem, ↓wBk, simprocAttr])
  refine tS S rfl rfl (l_a rfl) ?_
  clear S
  intro h S
  have S : St h0 h (cellA g zR.enc 66 :: cellA b x.enc 66 :: l) := S
  ((try clear F); have F := S.all; (try simp only [aC, aN, yC, and_true] at F))
  (try simp (disch := first|omega|assumption|exact l_a rfl) only [go_sem, ↓wBk, simprocAttr, F, zR, Ret.zero, RetV.enc])
  exact hK _ _ ⟨by decide, rfl, S.tl.tl⟩
 rw [dT hr]
 (try simp (disch := first|omega|assumption|exact l_a rfl) only [go_sem, ↓wBk, simprocAttr])
 refine cI (between_ok _ _ _ _) ?_
 rintro _ _ ⟨rfl, rfl⟩
 by_cases hg : btw grade 0 4
 case neg =>
  rw [if_pos (dF fun h => hg h.2)] at hd
  rw [hd] at hK
  rw [dF hg]
  (try simp (disch := first|omega|assumption|exact l_a rfl) only [go_sem, ↓wBk, simprocAttr])
  refine tS S rfl rfl (l_a rfl) ?_
  clear S
  intro h S
  have S : St h0 h (cellA g zR.enc 66 :: cellA b x.enc 66 :: l) := S
  ((try clear F); have F := S.all; (try simp only [aC, aN, yC, and_true] at F))
  (try simp (disch := first|omega|assumption|exact l_a rfl) only [go_sem, ↓wBk, simprocAttr, F, zR, Ret.zero, RetV.enc])
  exact hK _ _ ⟨by decide, rfl, S.tl.tl⟩
 rw [dT hg]
 rw [if_neg (by rw [dT ⟨hr, hg⟩]; decide)] at hd
 cases hix : x.r.us.findIdx? fun u => decide (u = unit) with
 | none =>
  rw [hix] at hd
  simp only at hd
  rw [hd] at hK
  have hi1 : ixI x.r.us unit = -1 := by rw [ixI, hix]
  (try simp (disch := first|omega|assumption|exact l_a rfl) only [go_sem, ↓wBk, simprocAttr, hi1])
  refine tS S rfl rfl (l_a rfl) ?_
  clear S
  intro h S
  have S : St h0 h (cellA g zR.enc 66 :: cellA b x.enc 66 :: l) := S
  ((try clear F); have F := S.all; (try simp only [aC, aN, yC, and_true] at F))
  (try simp (disch := first|omega|assumption|exact l_a rfl) only [go_sem, ↓wBk, simprocAttr, F, zR, Ret.zero, RetV.enc])
  exact hK _ _ ⟨by decide, rfl, S.tl.tl⟩
 | some j =>
  rw [hix] at hd
  simp only at hd
  have hi1 : ixI x.r.us unit = (j : Int) := by rw [ixI, hix]
  have hjl : j < x.r.us.length := by
   rw [List.findIdx?_eq_some_iff_getElem] at hix
   exact hix.1
  obtain ⟨b1, o1, hB, q1⟩ := (hb _ S.tl.tl).at (i := j) (by omega)
  have q1 := rP0 q1 (by omega)
  simp only [zEnc, l_o, Nat.mul_one] at q1
  rw [← getD_at] at q1
  ((try clear F); have F := S.all; (try simp only [aC, aN, yC, and_true] at F))
  by_cases hgj : x.r.gs.getD j 0 = -1
  case neg =>
   rw [if_pos hgj] at hd
   rw [hd] at hK
   (try simp (disch := first|omega|assumption|exact l_a rfl) only [go_sem, ↓wBk, simprocAttr, hi1, F, RetV.enc, hB, q1, Nat.mul_one])
   refine tS S rfl rfl (l_a rfl) ?_
   clear S F q1
   intro h S
   have S : St h0 h (cellA g zR.enc 66 :: cellA b x.enc 66 :: l) := S
   ((try clear F); have F := S.all; (try simp only [aC, aN, yC, and_true] at F))
   (try simp (disch := first|omega|assumption|exact l_a rfl) only [go_sem, ↓wBk, simprocAttr, F, zR, Ret.zero, RetV.enc])
   exact hK _ _ ⟨by decide, rfl, S.tl.tl⟩
  rw [if_neg (fun h => h hgj)] at hd
  rw [hd] at hK
  (try simp (disch := first|omega|assumption|exact l_a rfl) only [go_sem, ↓wBk, simprocAttr, hi1, F, RetV.enc, hB, q1, Nat.mul_one, hgj])
  have hcl := RClone_ok x (fun h' S => ha h' S.tl.tl) (fun h' S => hb h' S.tl.tl) l1 l2 S
  rw [RetV.enc, hB] at hcl
  refine cI hcl ?_
  clear S F q1 hcl
  rintro _ h ⟨y, rfl, hy, S⟩
  (try simp (disch := first|omega|assumption|exact l_a rfl) only [go_sem, ↓wBk, simprocAttr])
  refine tS S.p2 rfl rfl (l_a rfl) ?_
  clear S
  intro h S
  rw [RetV.enc, RetV.enc] at S
  (try simp only [sC, sN, l_h, l_i, Nat.zero_add, Nat.reduceAdd, l_j, l_k] at S)
  have S : St h0 h (cellA b y.enc 66 :: retRow y :: cellA g zR.enc 66 :: l) := S
  have Sg := St.star.1 S.p1
  have hgl2 : y.r.gs.length = x.r.us.length := by rw [hy, hgl]
  obtain ⟨bg, hbg⟩ := Sg.p1.ownAt (by omega)
  ((try clear F); have F := S.all; (try simp only [aC, aN, yC, and_true] at F))
  (try simp (disch := first|omega|assumption|exact l_a rfl) only [go_sem, ↓wBk, simprocAttr, F, RetV.enc, hbg, hi1])
  have Sg := Sg.p1
  rw [hbg] at Sg
  refine st_setOwn zEl (i := j) (x := grade) Sg (by omega) (by rw [Nat.mul_one]; try rfl) rfl rfl rfl ?_
  clear S Sg F
  intro h S
  obtain ⟨z, hz⟩ : ∃ z : RetV, z = { y with r := { x.r with gs := x.r.gs.set j grade } } := ⟨_, rfl⟩
  have hrow : retRow z = starA (ownA zEnc 1 3 (.slice y.A y.r.us.length y.c) y.r.us) (ownA zEnc 1 3 (.slice (some ⟨bg, 0, none⟩) y.r.gs.length y.d) (y.r.gs.set j grade)) := by
   rw [hz, retRow]
   simp only [l_ak, hbg, hy]
  have S := St.star.2 S.p1
  rw [← hrow] at S
  have henc : z.enc = y.enc := by rw [hz, RetV.enc, RetV.enc]; simp only [l_ak, hy]
  have S : St h0 h (cellA b z.enc 66 :: retRow z :: cellA g zR.enc 66 :: l) := by rw [henc]; exact S.p1
  clear hrow henc
  ((try clear F); have F := S.all; (try simp only [aC, aN, yC, and_true] at F))
  (try simp (disch := first|omega|assumption|exact l_a rfl) only [go_sem, ↓wBk, simprocAttr, F])
  refine tS S.p2 rfl rfl (l_a rfl) ?_
  clear S F
  intro h S
  have S : St h0 h (cellA g z.enc 66 :: cellA b z.enc 66 :: retRow z :: l) := S
  ((try clear F); have F := S.all; (try simp only [aC, aN, yC, and_true] at F))
  (try simp (disch := first|omega|assumption|exact l_a rfl) only [go_sem, ↓wBk, simprocAttr, F])
  refine hK _ _ ⟨hjl, z, by rw [hz], rfl, S.tl.tl⟩
end
section
variable {h0 h : Heap} {l : List HP} {L : Loc} {D : Cfg} {w : Wk} {U : List Unt} {m b i : Nat} {Au : Option Addr} {cu : Nat}
theorem policy_okS (n : Nat) (hn : n < U.length) (hc : ∀ h', St h0 h' l → D.rd h') (hu : ∀ h', St h0 h' l → Arr Unt.enc 4 h' Au U) (S : St h0 h (wkA L D (.slice Au U.length cu) w :: l)) :
  CallsH Tryz.prog 64 [.pointer (some ⟨L.p, 0, none⟩), .int .i64 (n : Int)] h fun v h' => v = .agg (polOf D.ps (untAt U n).cat).enc.toArray ∧ St h0 h' (wkA L D (.slice Au U.length cu) w :: l) := by
 have hat : untAt U (n : Int) = U[n] := by rw [untAt, l_ap, l_s, l_r hn]; rfl
 rw [hat]
 obtain ⟨b4, o4, rfl, _⟩ := (hu _ S.tl).at hn
 have hqU : ∀ {h' : Heap}, St h0 h' l → rd1 h' (.pointer (some ⟨b4, o4 + n * 4 + 2, none⟩)) = some (.int .i64 U[n].cat) := fun S => by
  obtain ⟨b5, o5, hA5, q5⟩ := (hu _ S).at hn
  cases hA5
  have p2 := rP q5 2 (by omega)
  simpa only [Unt.enc, l_o, l_p] using p2
 obtain ⟨P, hP⟩ : ∃ P, P = polOf D.ps U[n].cat := ⟨_, rfl⟩
 rw [← hP]
 (refine eK c_saga_Saga_policy (l_a rfl) fun K hK => ?_; (try simp (disch := first|omega|assumption|exact l_a rfl) only [go_sem, ↓wBk, simprocAttr, ir_saga_Saga_policy]))
 (refine tA S ?_; clear S; intro g h S; (try simp only [sC, sN, l_h, l_i, Nat.zero_add, Nat.reduceAdd, l_j, l_k] at S); ((try clear F); have F := S.all; (try simp only [aC, aN, yC, and_true] at F)))
 have S : St h0 h (wkA L D (.slice (some ⟨b4, o4, none⟩) U.length cu) w :: cellA g Pol.zero.enc 133 :: l) := S.p1
 have r2 : ∀ K t, readT (fun h' => St h0 h' (wkA L D (.slice (some ⟨b4, o4, none⟩) U.length cu) w :: cellA g Pol.zero.enc 133 :: l)) (fun h' => rd1 h' (.pointer (some ⟨L.p, 2, none⟩))) K t = K (.slice D.A3 D.ps.length D.c3) := fun K t => rI (fun h' S => by
  obtain ⟨sd, M, Sc, _⟩ := S.wkCell
  exact st_rd1 (off := 2) Sc) h S
 have r3 : ∀ K t, readT (fun h' => St h0 h' (wkA L D (.slice (some ⟨b4, o4, none⟩) U.length cu) w :: cellA g Pol.zero.enc 133 :: l)) (fun h' => rd1 h' (.pointer (some ⟨L.p, 3, none⟩))) K t = K (.slice (some ⟨b4, o4, none⟩) U.length cu) := fun K t => rI (fun h' S => by
  obtain ⟨sd, M, Sc, _⟩ := S.wkCell
  exact st_rd1 (off := 3) Sc) h S
 have rU : ∀ K t, readT (fun h' => St h0 h' (wkA L D (.slice (some ⟨b4, o4, none⟩) U.length cu) w :: cellA g Pol.zero.enc 133 :: l)) (fun h' => rd1 h' (.pointer (some ⟨b4, o4 + n * 4 + 2, none⟩))) K t = K (.int .i64 U[n].cat) := fun K t => rI (fun h' S => hqU S.tl.tl) h S
 (try simp (disch := first|omega|assumption|exact l_a rfl) only [go_sem, ↓wBk, simprocAttr])
 refine cS S (fun ρ' h' => ρ' 4 = .pointer (some ⟨g, 0, none⟩) ∧ ∃ q, ρ' 5 = .pointer (some ⟨q, 0, none⟩) ∧ St h0 h' (cellA q P.enc 133 :: wkA L D (.slice (some ⟨b4, o4, none⟩) U.length cu) w :: cellA g Pol.zero.enc 133 :: l)) ?_ ?_
 ·intro J hJ
  (try simp (disch := first|omega|assumption|exact l_a rfl) only [go_sem, ↓wBk, simprocAttr, r2, r3, rU])
  refine ⟨?_, ?_⟩
  ·refine cI (OfP_ok S (fun h' S => (hc _ S.tl.tl).ps) U[n].cat) ?_
   clear S F r2 r3 rU
   rintro _ h ⟨S, e, rfl⟩
   rw [← hP]
   (try simp (disch := first|omega|assumption|exact l_a rfl) only [go_sem, ↓wBk, simprocAttr])
   (refine tA S ?_; clear S; intro q h S; (try simp only [sC, sN, l_h, l_i, Nat.zero_add, Nat.reduceAdd, l_j, l_k] at S); ((try clear F); have F := S.all; (try simp only [aC, aN, yC, and_true] at F)))
   refine ⟨S.tl, ?_⟩
   (try simp (disch := first|omega|assumption|exact l_a rfl) only [go_sem, ↓wBk, simprocAttr])
   (refine tS (by first | exact S | exact S.p1 | exact S.p2 | exact S.p3 | exact S.p4 | exact S.p5 | exact S.p6 | exact S.p7 | exact S.p8 | exact S.p9 | exact S.p10 | exact S.p11) (by rfl) (by rfl) (l_a rfl) ?_; clear S; intro h S; (try simp only [sC, sN, l_h, l_i, Nat.zero_add, Nat.reduceAdd, l_j, l_k] at S); ((try clear F); have F := S.all; (try simp only [aC, aN, yC, and_true] at F)))
   refine hJ _ _ ?_
   (try simp (disch := first|omega|assumption|exact l_a rfl) only [go_sem, ↓wBk, simprocAttr])
   exact ⟨q, rfl, S⟩
  ·(refine tA S ?_; clear S; intro q h S; (try simp only [sC, sN, l_h, l_i, Nat.zero_add, Nat.reduceAdd, l_j, l_k] at S); ((try clear F); have F := S.all; (try simp only [aC, aN, yC, and_true] at F)))
   refine ⟨S.tl, ?_⟩
   (try simp (disch := first|omega|assumption|exact l_a rfl) only [go_sem, ↓wBk, simprocAttr])
   refine cI (OfP_ok S (fun h' S => (hc _ S.tl.tl.tl).ps) U[n].cat) ?_
   clear S F r2 r3 rU
   rintro _ h ⟨S, e, rfl⟩
   rw [← hP]
   (try simp (disch := first|omega|assumption|exact l_a rfl) only [go_sem, ↓wBk, simprocAttr])
   (refine tS (by first | exact S | exact S.p1 | exact S.p2 | exact S.p3 | exact S.p4 | exact S.p5 | exact S.p6 | exact S.p7 | exact S.p8 | exact S.p9 | exact S.p10 | exact S.p11) (by rfl) (by rfl) (l_a rfl) ?_; clear S; intro h S; (try simp only [sC, sN, l_h, l_i, Nat.zero_add, Nat.reduceAdd, l_j, l_k] at S); ((try clear F); have F := S.all; (try simp only [aC, aN, yC, and_true] at F)))
   refine hJ _ _ ?_
   (try simp (disch := first|omega|assumption|exact l_a rfl) only [go_sem, ↓wBk, simprocAttr])
   exact ⟨q, rfl, S⟩
 clear S F r2 r3 rU
 rintro ρ' h ⟨e4, q, e5, S⟩
 ((try clear F); have F := S.all; (try simp only [aC, aN, yC, and_true] at F))
 (try simp (disch := first|omega|assumption|exact l_a rfl) only [go_sem, ↓wBk, simprocAttr, e4, e5, F])
 refine tS S.p2 rfl rfl (l_a rfl) ?_
 clear S F
 intro h S
 have S : St h0 h (cellA g P.enc 133 :: cellA q P.enc 133 :: wkA L D (.slice (some ⟨b4, o4, none⟩) U.length cu) w :: l) := S
 ((try clear F); have F := S.all; (try simp only [aC, aN, yC, and_true] at F))
 (try simp (disch := first|omega|assumption|exact l_a rfl) only [go_sem, ↓wBk, simprocAttr, e4, F])
 exact hK _ _ ⟨rfl, S.tl.tl⟩
end
end
end Go.Proofs.YtijnkebgciaieaaGreat.MX
