import Derived.Test.YtijnkebgciaieaaGreatK31
namespace Go.Proofs.YtijnkebgciaieaaGreat.MX
open Go Go.Proofs
set_option linter.unusedSimpArgs false
set_option linter.unusedVariables false
section
set_option maxHeartbeats 8000000
theorem postP_err {x : Led} {a b sum e : Int} (h : postP x a b sum = .error e) : e ≠ 0 := by
 unfold postP at h
 split at h
 ·cases h; decide
 ·split at h
  ·cases h
  ·cases h; decide
section
variable {h0 h : Heap} {l : List HP} {L : Loc} {D : Cfg} {u : Value} {w : Wk} {U : List Unt} {m b i : Nat}
theorem post_ok (a c sum : Int) (hab : a = 0 ∧ c = 1 ∨ a = 1 ∧ c = 2 ∨ a = 1 ∧ c = 3 ∨ a = 1 ∧ c = 4) (S : St h0 h (wkA L D u w :: l)) : CallsH Tryz.prog 117 [.pointer (some ⟨L.p, 0, none⟩), .int .i64 a, .int .i64 c, .int .i64 sum] h fun v h' => resE h0 L D u l (wpost w a c sum) v h' := by
 obtain ⟨sd, M, Sc, back⟩ := S.wkCell
 clear S
 have F := Sc.all
 simp only [aC, aN, yC, and_true] at F
 (refine eK c_saga_Saga_post (l_a rfl) fun K hK => ?_; (try simp (disch := first|omega|assumption|exact l_a rfl) only [go_sem, ↓wBk, simprocAttr, ir_saga_Saga_post]))
 (try simp (disch := first|omega|assumption|exact l_a rfl) only [go_sem, ↓wBk, simprocAttr, F, sagE])
 rw [show [Value.int .i64 w.s.led.a, .int .i64 w.s.led.b, .int .i64 w.s.led.c, .int .i64 w.s.led.d, .int .i64 w.s.led.e] = w.s.led.enc from rfl]
 refine cI (Post_ok w.s.led a c sum hab _) ?_
 rintro _ h ⟨rfl, f1⟩
 have S := Sc.frame f1
 clear Sc f1 F
 have hw : wpost w a c sum = (postP w.s.led a c sum).map w.led := rfl
 rw [hw] at hK
 unfold postR
 cases hp : postP w.s.led a c sum with
 | error e =>
  have he := postP_err hp
  rw [hp] at hK
  (try simp (disch := first|omega|assumption|exact l_a rfl) only [go_sem, ↓wBk, simprocAttr, Led.enc, Led.zero])
  (refine tA S ?_; clear S; intro g h S; (try simp only [sC, sN, l_h, l_i, Nat.zero_add, Nat.reduceAdd, l_j, l_k] at S); ((try clear F); have F := S.all; (try simp only [aC, aN, yC, and_true] at F)))
  (try simp (disch := first|omega|assumption|exact l_a rfl) only [go_sem, ↓wBk, simprocAttr])
  refine tS S rfl rfl (l_a rfl) ?_
  clear S F
  intro h S
  (try simp (disch := first|omega|assumption|exact l_a rfl) only [go_sem, ↓wBk, simprocAttr])
  exact hK _ _ ⟨he, rfl, by
   have S2 := back _ w.s rfl rfl rfl rfl rfl S.tl
   exact S2.tl⟩
 | ok x =>
  rw [hp] at hK
  (try simp (disch := first|omega|assumption|exact l_a rfl) only [go_sem, ↓wBk, simprocAttr, Led.enc])
  (refine tA S ?_; clear S; intro g h S; (try simp only [sC, sN, l_h, l_i, Nat.zero_add, Nat.reduceAdd, l_j, l_k] at S); ((try clear F); have F := S.all; (try simp only [aC, aN, yC, and_true] at F)))
  (try simp (disch := first|omega|assumption|exact l_a rfl) only [go_sem, ↓wBk, simprocAttr])
  refine tS S rfl rfl (l_a rfl) ?_
  clear S F
  intro h S
  (try simp only [sC, sN, l_h, l_i, Nat.zero_add, Nat.reduceAdd, l_j, l_k] at S)
  ((try clear F); have F := S.all; (try simp only [aC, aN, yC, and_true] at F))
  (try simp (disch := first|omega|assumption|exact l_a rfl) only [go_sem, ↓wBk, simprocAttr, F])
  refine tS S.p1 rfl rfl (l_a rfl) ?_
  clear S F
  intro h S
  rw [sagE] at S
  (try simp only [sC, sN, l_h, l_i, Nat.zero_add, Nat.reduceAdd, l_j, l_k] at S)
  (try simp (disch := first|omega|assumption|exact l_a rfl) only [go_sem, ↓wBk, simprocAttr])
  have S2 := back _ { w.s with led := x } rfl rfl rfl rfl rfl S.d1
  exact hK _ _ ⟨rfl, S2⟩
theorem credit_ok (sum : Int) (S : St h0 h (wkA L D u w :: l)) (hA : L.A = some ⟨b, 0, none⟩) (hi : i < w.s.R.length) : CallsH Tryz.prog 124 [.pointer (some ⟨L.p, 0, none⟩), .pointer (some ⟨b, i * 14, none⟩), .int .i64 sum] h fun v h' => resE h0 L D u l (creditP w i sum) v h' := by
 obtain ⟨x, hx, hrd, _, _, _⟩ := S.wkRet hA hi
 have q := hrd 12 (by omega)
 simp only [RetV.enc, l_o, l_p, hx] at q
 (refine eK c_saga_Saga_credit (l_a rfl) fun K hK => ?_; (try simp (disch := first|omega|assumption|exact l_a rfl) only [go_sem, ↓wBk, simprocAttr, ir_saga_Saga_credit]))
 (try simp (disch := first|omega|assumption|exact l_a rfl) only [go_sem, ↓wBk, simprocAttr, q])
 refine st_wkSet (r' := { w.R i with credd := w64 ((w.R i).credd + sum) }) S hA hi (j := 12) (by omega) rfl rfl rfl (fun x hx => by rw [RetV.enc, RetV.enc, hx]; rfl) ?_
 clear S hrd q
 intro h S
 (try simp (disch := first|omega|assumption|exact l_a rfl) only [go_sem, ↓wBk, simprocAttr])
 refine cI (post_ok 1 3 sum (by omega) S) ?_
 clear S
 intro v h hv
 have hd : creditP w i sum = wpost (w.put i { w.R i with credd := w64 ((w.R i).credd + sum) }) 1 3 sum := rfl
 rw [hd] at hK
 (try simp (disch := first|omega|assumption|exact l_a rfl) only [go_sem, ↓wBk, simprocAttr])
 exact hK _ _ hv
theorem pay_ok (sum : Int) (S : St h0 h (wkA L D u w :: l)) (W : w.wf U m) (hm : m < 500000) (hA : L.A = some ⟨b, 0, none⟩) (hi : i < w.s.R.length) : CallsH Tryz.prog 118 [.pointer (some ⟨L.p, 0, none⟩), .pointer (some ⟨b, i * 14, none⟩), .int .i64 sum] h fun v h' => resE h0 L D u l (payP w i sum) v h' := by
 have hd : payP w i sum = if sum = 0 then .ok w else if (w.R i).cred = true then creditP w i sum else .ok (sayP w 2 (w.R i).num sum) := rfl
 obtain ⟨x, hx, hrd, _, _, _⟩ := S.wkRet hA hi
 have q5 := hrd 5 (by omega)
 have q0 := hrd 0 (by omega)
 simp only [RetV.enc, l_o, l_p, hx, Nat.add_zero] at q5 q0
 by_cases h1 : sum = 0
 ·rw [if_pos h1] at hd
  rw [hd]
  (refine eK c_saga_Saga_pay (l_a rfl) fun K hK => ?_; (try simp (disch := first|omega|assumption|exact l_a rfl) only [go_sem, ↓wBk, simprocAttr, ir_saga_Saga_pay]))
  (try simp (disch := first|omega|assumption|exact l_a rfl) only [go_sem, ↓wBk, simprocAttr])
  exact hK _ _ ⟨rfl, S⟩
 rw [if_neg h1] at hd
 cases hc : (w.R i).cred with
 | true =>
  rw [if_pos hc] at hd
  rw [hd]
  rw [hc] at q5
  (refine eK c_saga_Saga_pay (l_a rfl) fun K hK => ?_; (try simp (disch := first|omega|assumption|exact l_a rfl) only [go_sem, ↓wBk, simprocAttr, ir_saga_Saga_pay]))
  (try simp (disch := first|omega|assumption|exact l_a rfl) only [go_sem, ↓wBk, simprocAttr, q5])
  refine cI (credit_ok sum S hA hi) ?_
  intro v h hv
  (try simp (disch := first|omega|assumption|exact l_a rfl) only [go_sem, ↓wBk, simprocAttr])
  exact hK _ _ hv
 | false =>
  rw [if_neg (by rw [hc]; decide)] at hd
  rw [hd]
  rw [hc] at q5
  (refine eK c_saga_Saga_pay (l_a rfl) fun K hK => ?_; (try simp (disch := first|omega|assumption|exact l_a rfl) only [go_sem, ↓wBk, simprocAttr, ir_saga_Saga_pay]))
  (try simp (disch := first|omega|assumption|exact l_a rfl) only [go_sem, ↓wBk, simprocAttr, q5, q0])
  refine cI (say_ok 2 _ sum S W hm) ?_
  clear S q5 q0 hrd
  intro v h S
  (try simp (disch := first|omega|assumption|exact l_a rfl) only [go_sem, ↓wBk, simprocAttr])
  exact hK _ _ ⟨rfl, S⟩
theorem close_ok (S : St h0 h (wkA L D u w :: l)) (W : w.wf U m) (hm : m < 500000) (hA : L.A = some ⟨b, 0, none⟩) (hi : i < w.s.R.length) : CallsH Tryz.prog 86 [.pointer (some ⟨L.p, 0, none⟩), .pointer (some ⟨b, i * 14, none⟩)] h fun v h' => v = .int .i64 0 ∧ St h0 h' (wkA L D u (closeP w i) :: l) := by
 have hol := W.ol
 have hd : closeP w i = if (w.R i).state = 5 ∧ waitsOf (w.R i).num w.s.O = 0 then w.put i { w.R i with state := 6 } else w := rfl
 obtain ⟨x, hx, hrd, _, _, _⟩ := S.wkRet hA hi
 have q6 := hrd 6 (by omega)
 have q0 := hrd 0 (by omega)
 simp only [RetV.enc, l_o, l_p, hx, Nat.add_zero] at q6 q0
 by_cases h1 : (w.R i).state = 5
 case neg =>
  rw [if_neg (fun h => h1 h.1)] at hd
  rw [hd]
  (refine eK c_saga_Saga_close (l_a rfl) fun K hK => ?_; (try simp (disch := first|omega|assumption|exact l_a rfl) only [go_sem, ↓wBk, simprocAttr, ir_saga_Saga_close]))
  refine dE ?_
  (try simp (disch := first|omega|assumption|exact l_a rfl) only [go_sem, ↓wBk, simprocAttr, q6])
  exact hK _ _ ⟨rfl, S⟩
 obtain ⟨sd, M, Sc, _⟩ := S.wkCell
 have F := Sc.all
 simp only [aC, aN, yC, and_true] at F
 obtain ⟨M', So, _⟩ := S.wkObx
 (refine eK c_saga_Saga_close (l_a rfl) fun K hK => ?_; (try simp (disch := first|omega|assumption|exact l_a rfl) only [go_sem, ↓wBk, simprocAttr, ir_saga_Saga_close]))
 refine dE ?_
 (try simp (disch := first|omega|assumption|exact l_a rfl) only [go_sem, ↓wBk, simprocAttr, q6, q0, F, sagE])
 refine cI (WaitsO_ok _ So (by omega)) ?_
 clear So Sc F q6 q0 hrd
 rintro _ h ⟨rfl, f1⟩
 have S := S.frame f1
 clear f1
 generalize hwt : waitsOf (w.R i).num w.s.O = wt at *
 by_cases h2 : (0 : Int) < (wt : Int)
 ·rw [if_neg (fun h => by omega)] at hd
  rw [hd] at hK
  (try simp (disch := first|omega|assumption|exact l_a rfl) only [go_sem, ↓wBk, simprocAttr])
  exact hK _ _ ⟨rfl, S⟩
 rw [if_pos ⟨h1, by omega⟩] at hd
 rw [hd] at hK
 obtain ⟨x, hx, hrd, _, _, _⟩ := S.wkRet hA hi
 have q6 := hrd 6 (by omega)
 simp only [RetV.enc, l_o, l_p, hx, h1] at q6
 (try simp (disch := first|omega|assumption|exact l_a rfl) only [go_sem, ↓wBk, simprocAttr, q6])
 refine cI (Next_ok 5 6 _) ?_
 rintro _ _ ⟨rfl, rfl⟩
 rw [show nextR 5 6 = .tuple #[.int .i64 6, .int .i64 0] from rfl]
 (try simp (disch := first|omega|assumption|exact l_a rfl) only [go_sem, ↓wBk, simprocAttr])
 refine st_wkSet (r' := { w.R i with state := 6 }) S hA hi (j := 6) (by omega) rfl rfl rfl (fun x hx => by rw [RetV.enc, RetV.enc, hx]; rfl) ?_
 clear S hrd q6
 intro h S
 (try simp (disch := first|omega|assumption|exact l_a rfl) only [go_sem, ↓wBk, simprocAttr])
 exact hK _ _ ⟨rfl, S⟩
def resS (h0 : Heap) (L : Loc) (D : Cfg) (u : Value) (l : List HP) (w : Wk) (num : Int) (x : Except Int Wk) (v : Value) (h' : Heap) : Prop := match x with
 | .error e => e ≠ 0 ∧ v = .tuple #[.pointer none, .int .i64 e] ∧ St h0 h' l
 | .ok w' => ∃ (i b : Nat), num = (i : Int) + 1 ∧ (num - 1).toNat = i ∧ i < w.s.R.length ∧ L.A = some ⟨b, 0, none⟩ ∧ v = .tuple #[.pointer (some ⟨b, i * 14, none⟩), .int .i64 0] ∧ St h0 h' (wkA L D u w' :: l)
theorem step_ok (num by_ : Int) (S : St h0 h (wkA L D u w :: l)) (W : w.wf U m) : CallsH Tryz.prog 72 [.pointer (some ⟨L.p, 0, none⟩), .int .i64 num, .int .i64 by_] h fun v h' => resS h0 L D u l w num (stepP w num by_) v h' := by
 (refine eK c_saga_Saga_step (l_a rfl) fun K hK => ?_; (try simp (disch := first|omega|assumption|exact l_a rfl) only [go_sem, ↓wBk, simprocAttr, ir_saga_Saga_step]))
 refine cI (of_ok num S W) ?_
 rintro _ _ ⟨rfl, ⟨hn, rfl⟩ | ⟨i, b, hnum, hni, hi, hat, hA, rfl⟩⟩
 ·have hd : stepP w num by_ = .error 7 := by rw [stepP, hn]
  rw [hd] at hK
  (try simp (disch := first|omega|assumption|exact l_a rfl) only [go_sem, ↓wBk, simprocAttr])
  exact hK _ _ ⟨by decide, rfl, S.tl⟩
 obtain ⟨x, hx, hrd, _, _, _⟩ := S.wkRet hA hi
 have q6 := hrd 6 (by omega)
 simp only [RetV.enc, l_o, l_p, hx] at q6
 (try simp (disch := first|omega|assumption|exact l_a rfl) only [go_sem, ↓wBk, simprocAttr, q6])
 refine cI (Next_ok _ by_ _) ?_
 rintro _ _ ⟨rfl, rfl⟩
 unfold nextR
 cases hnx : nextV (w.R i).state by_ with
 | none =>
  have hd : stepP w num by_ = .error 8 := by rw [stepP, hat]; simp only [hnx]
  rw [hd] at hK
  (try simp (disch := first|omega|assumption|exact l_a rfl) only [go_sem, ↓wBk, simprocAttr])
  exact hK _ _ ⟨by decide, rfl, S.tl⟩
 | some st =>
  have hd : stepP w num by_ = .ok (w.put i { w.R i with state := st }) := by rw [stepP, hat]; simp only [hnx, hni]
  rw [hd] at hK
  (try simp (disch := first|omega|assumption|exact l_a rfl) only [go_sem, ↓wBk, simprocAttr])
  refine st_wkSet (r' := { w.R i with state := st }) S hA hi (j := 6) (by omega) rfl rfl rfl (fun x hx => by rw [RetV.enc, RetV.enc, hx]; rfl) ?_
  clear S hrd q6
  intro h S
  (try simp (disch := first|omega|assumption|exact l_a rfl) only [go_sem, ↓wBk, simprocAttr])
  exact hK _ _ ⟨i, b, hnum, hni, hi, hA, rfl, S⟩
theorem end_ok (num by_ : Int) (S : St h0 h (wkA L D u w :: l)) (W : w.wf U m) (hm : m < 500000) (hU : U.length ≤ 200) : CallsH Tryz.prog 39 [.pointer (some ⟨L.p, 0, none⟩), .int .i64 num, .int .i64 by_] h fun v h' => resE h0 L D u l (endP w num by_) v h' := by
 (refine eK c_saga_Saga_end (l_a rfl) fun K hK => ?_; (try simp (disch := first|omega|assumption|exact l_a rfl) only [go_sem, ↓wBk, simprocAttr, ir_saga_Saga_end]))
 refine cI (of_ok num S W) ?_
 rintro _ _ ⟨rfl, ⟨hn, rfl⟩ | ⟨i, b, hnum, hni, hi, hat, hA, rfl⟩⟩
 ·have hd : endP w num by_ = .error 7 := by rw [endP, hn]
  rw [hd] at hK
  (try simp (disch := first|omega|assumption|exact l_a rfl) only [go_sem, ↓wBk, simprocAttr])
  exact hK _ _ ⟨by decide, rfl, S.tl⟩
 obtain ⟨x, hx, hrd, _, _, _⟩ := S.wkRet hA hi
 have q6 := hrd 6 (by omega)
 simp only [RetV.enc, l_o, l_p, hx] at q6
 (try simp (disch := first|omega|assumption|exact l_a rfl) only [go_sem, ↓wBk, simprocAttr, q6])
 refine cI (Next_ok _ by_ _) ?_
 rintro _ _ ⟨rfl, rfl⟩
 unfold nextR
 cases hnx : nextV (w.R i).state by_ with
 | none =>
  have hd : endP w num by_ = .error 8 := by rw [endP, hat]; simp only [hnx]
  rw [hd] at hK
  (try simp (disch := first|omega|assumption|exact l_a rfl) only [go_sem, ↓wBk, simprocAttr])
  exact hK _ _ ⟨by decide, rfl, S.tl⟩
 | some st =>
  obtain ⟨w1, hw1⟩ : ∃ w1, w1 = w.put i { w.R i with state := st } := ⟨_, rfl⟩
  obtain ⟨w2, hw2⟩ : ∃ w2, w2 = releaseP w1 i := ⟨_, rfl⟩
  have hd : endP w num by_ = .ok { w2 with s := { w2.s with T := without w2.s.T num, O := dropL w2.s.O num } } := by rw [endP, hat]; simp only [hnx, hni]; rw [hw2, hw1]
  rw [hd] at hK
  have W1 : w1.wf U m := by rw [hw1]; exact W.putR hi rfl rfl
  have hi1 : i < w1.s.R.length := by rw [hw1, put_len]; exact hi
  have W2 : w2.wf U m := by rw [hw2]; exact W1.release hi1
  have htl := W2.tl
  have hol := W2.ol
  (try simp (disch := first|omega|assumption|exact l_a rfl) only [go_sem, ↓wBk, simprocAttr])
  refine st_wkSet (r' := { w.R i with state := st }) S hA hi (j := 6) (by omega) rfl rfl rfl (fun x hx => by rw [RetV.enc, RetV.enc, hx]; rfl) ?_
  clear S hrd q6
  intro h S
  rw [← hw1] at S
  (try simp (disch := first|omega|assumption|exact l_a rfl) only [go_sem, ↓wBk, simprocAttr])
  refine cI (release_ok S W1 hU hA hi1) ?_
  clear S
  intro v h S
  rw [← hw2] at S
  obtain ⟨sd, M, Sc, _⟩ := S.wkCell
  have F := Sc.all
  simp only [aC, aN, yC, and_true] at F
  (try simp (disch := first|omega|assumption|exact l_a rfl) only [go_sem, ↓wBk, simprocAttr, F, sagE])
  clear F Sc
  obtain ⟨M, St1, back⟩ := S.wkTim
  refine cI (StopT_ok num St1 (by omega) W2.tg) ?_
  clear S St1
  rintro _ h ⟨_, St1⟩
  have S := back _ _ St1
  clear back St1
  obtain ⟨sd, M, Sc, _⟩ := S.wkCell
  have F := Sc.all
  simp only [aC, aN, yC, and_true] at F
  (try simp (disch := first|omega|assumption|exact l_a rfl) only [go_sem, ↓wBk, simprocAttr, F, sagE])
  clear F Sc
  obtain ⟨M, So, back⟩ := S.wkObx
  refine cI (DropO_ok num 1 So (by show w2.s.O.length < _; omega)) ?_
  clear S
  intro v h So
  have S := back _ _ _ So
  (try simp (disch := first|omega|assumption|exact l_a rfl) only [go_sem, ↓wBk, simprocAttr])
  exact hK _ _ ⟨rfl, S⟩
def movesK (Ks : List KU) (us : List Int) (to : Int) : List KU := us.foldl (fun Ks u => moveK Ks u to) Ks
theorem movesP_eq (us : List Int) (to : Int) : ∀ w : Wk, movesP w us to = { w with s := { w.s with K := movesK w.s.K us to } } := by
 induction us with
 | nil => intro w; rfl
 | cons u us ih => intro w; exact ih (w.mv u to)
theorem movesK_snoc (Ks : List KU) (us : List Int) (u to : Int) : movesK Ks (us ++ [u]) to = moveK (movesK Ks us to) u to := by
 unfold movesK
 rw [List.foldl_append]
 rfl
theorem movesK_len (us : List Int) (to : Int) : ∀ Ks : List KU, (movesK Ks us to).length = Ks.length := by
 induction us with
 | nil => intro Ks; rfl
 | cons u us ih => intro Ks; exact (ih _).trans (moveK_len _ _ _)
theorem move_ok (to : Int) (S : St h0 h (wkA L D u w :: l)) (W : w.wf U m) (hU : U.length ≤ 200) (hA : L.A = some ⟨b, 0, none⟩) (hi : i < w.s.R.length) : CallsH Tryz.prog 73 [.pointer (some ⟨L.p, 0, none⟩), .pointer (some ⟨b, i * 14, none⟩), .int .i64 to] h fun v h' => St h0 h' (wkA L D u (movesP w (w.R i).us to) :: l) := by
 have hlen := (W.len _ (R_mem hi)).1
 have hkl := W.kl
 rw [movesP_eq]
 obtain ⟨sd, vs, hv, S⟩ := St.wk.1 S
 have hil : i < vs.length := by rw [← hv, l_z] at hi; exact hi
 have e : vs[i].r = w.R i := by
  unfold Wk.R
  rw [← hv, l_s, l_ag, l_r hil]
  rfl
 have q8 : rd1 h (.pointer (some ⟨b, i * 14 + 8, none⟩)) = some (.slice vs[i].A (w.R i).us.length vs[i].c) := by
  have S4 := S.p4
  rw [hA] at S4
  have := own_part RetV.enc_len S4 (i := i) (j := 8) hil (by omega)
  simpa only [RetV.enc, l_o, l_p, e] using this
 have harr : ∀ {h' : Heap} {M : List HP}, St h0 h' (M ++ (vs.map retRow ++ l)) → Arr zEnc 1 h' vs[i].A (w.R i).us := fun {h' M} S => by
  have := (retRow_in S (x := vs[i]) (List.mem_append_right _ (List.mem_append_left _ (l_ai (l_v hil))))).1
  rwa [e] at this
 generalize vs[i].A = A at *
 generalize vs[i].c = c at *
 generalize hus : (w.R i).us = us at *
 (refine eK c_saga_Saga_move (l_a rfl) fun K hK => ?_; (try simp (disch := first|omega|assumption|exact l_a rfl) only [go_sem, ↓wBk, simprocAttr, ir_saga_Saga_move]))
 (try simp (disch := first|omega|assumption|exact l_a rfl) only [go_sem, ↓wBk, simprocAttr, q8])
 refine lI (fun ρ h' => ρ 0 = .pointer (some ⟨L.p, 0, none⟩) ∧ ρ 2 = .int .i64 to ∧ ρ 11 = .slice A us.length c ∧ ρ 12 = .int .i64 us.length ∧ ∃ j : Nat, ρ 13 = .int .i64 j ∧ j ≤ us.length ∧
  St h0 h' (stockA L.k (movesK w.s.K (us.take j) to) :: cellA L.p (sagE D u L.k L.t L.o (.slice L.A w.s.R.length L.c) sd w.s) 64 :: timA L.t w.s.T :: obxA L.o w.s.key w.s.O ::
  ownA RetV.enc 14 66 (.slice L.A w.s.R.length L.c) vs :: ownA Msg.enc 6 110 sd w.sd :: (vs.map retRow ++ l))) (fun ρ _ => us.length - (iv (ρ 13)).toNat) ?_ ?_
 ·(try simp (disch := first|omega|assumption|exact l_a rfl) only [go_sem, ↓wBk, simprocAttr])
  exact ⟨0, rfl, by omega, S.p1⟩
 clear S q8
 rintro ρ h J hJ ⟨e0, e2, e11, e12, j, e13, hj, S⟩
 (try simp (disch := first|omega|assumption|exact l_a rfl) only [go_sem, ↓wBk, simprocAttr, e12, e13])
 refine cD (fun hlt => ?_) (fun hlt => ?_)
 ·have hjl : j < us.length := by omega
  obtain ⟨b1, o1, hA1, q1⟩ := (harr (M := [_, _, _, _, _, _]) S).at hjl
  have q1 := rP0 q1 (by omega)
  simp only [zEnc, l_o, Nat.mul_one] at q1
  have hsn : movesK w.s.K (us.take (j + 1)) to = moveK (movesK w.s.K (us.take j) to) us[j] to := by rw [l_t hjl, movesK_snoc]
  have hkl2 := movesK_len (us.take j) to w.s.K
  generalize us[j] = v at *
  ((try clear F); have F := S.all; (try simp only [aC, aN, yC, and_true] at F))
  (try simp (disch := first|omega|assumption|exact l_a rfl) only [go_sem, ↓wBk, simprocAttr, e0, e2, e11, e13, F, sagE, hA1, q1, Nat.mul_one])
  refine cI (Move_ok v to S (by omega)) ?_
  clear S F q1
  rintro _ h ⟨rfl, S⟩
  rw [← hsn] at S
  (try simp (disch := first|omega|assumption|exact l_a rfl) only [go_sem, ↓wBk, simprocAttr, e13])
  refine hJ _ _ ?_ ?_
  ·(try simp (disch := first|omega|assumption|exact l_a rfl) only [go_sem, ↓wBk, simprocAttr, e0, e2, e11, e12, hA1])
   exact ⟨j + 1, rfl, by omega, S⟩
  ·(try simp (disch := first|omega|assumption|exact l_a rfl) only [go_sem, ↓wBk, simprocAttr, e13])
   omega
 obtain rfl : j = us.length := by omega
 rw [l_aj] at S
 (try simp (disch := first|omega|assumption|exact l_a rfl) only [go_sem, ↓wBk, simprocAttr])
 exact hK _ _ (St.wk.2 ⟨sd, vs, hv, S.p1⟩)
theorem spick_ok (num : Int) (S : St h0 h (wkA L D u w :: l)) (W : w.wf U m) (hU : U.length ≤ 200) : CallsH Tryz.prog 40 [.pointer (some ⟨L.p, 0, none⟩), .int .i64 num] h fun v h' => resE h0 L D u l (pickP w num) v h' := by
 (refine eK c_saga_Saga_pick (l_a rfl) fun K hK => ?_; (try simp (disch := first|omega|assumption|exact l_a rfl) only [go_sem, ↓wBk, simprocAttr, ir_saga_Saga_pick]))
 refine cI (step_ok num 2 S W) ?_
 clear S
 intro v h hv
 have hd : pickP w num = (stepP w num 2).bind fun w1 => let w2 := movesP w1 (w1.R (num - 1).toNat).us 1; .ok (setTW w2 num (w2.s.now + 30)) := rfl
 rw [hd] at hK
 cases hs : stepP w num 2 with
 | error e =>
  rw [hs] at hv hK
  obtain ⟨he, rfl, S⟩ := hv
  (try simp (disch := first|omega|assumption|exact l_a rfl) only [go_sem, ↓wBk, simprocAttr])
  exact hK _ _ ⟨he, rfl, S⟩
 | ok w1 =>
  rw [hs] at hv hK
  obtain ⟨i, b, hnum, hni, hi, hA, rfl, S⟩ := hv
  obtain ⟨W1, l1, _⟩ := step_wf hs W
  have hi1 : i < w1.s.R.length := by omega
  (try simp (disch := first|omega|assumption|exact l_a rfl) only [go_sem, ↓wBk, simprocAttr])
  refine cI (move_ok 1 S W1 hU hA hi1) ?_
  clear S
  intro v h S
  rw [← hni] at S
  obtain ⟨W2, r2⟩ := moves_wf (w1.R (num - 1).toNat).us 1 W1
  have hK' : ∀ (v : Value) (h' : Heap), resE h0 L D u l (.ok (setTW (movesP w1 (w1.R (num - 1).toNat).us 1) num ((movesP w1 (w1.R (num - 1).toNat).us 1).s.now + 30))) v h' → K v h' := hK
  clear hK
  generalize movesP w1 (w1.R (num - 1).toNat).us 1 = w2 at *
  have htl := W2.tl
  have hnow := W2.now
  obtain ⟨sd, M, Sc, _⟩ := S.wkCell
  have F := Sc.all
  simp only [aC, aN, yC, and_true] at F
  (try simp (disch := first|omega|assumption|exact l_a rfl) only [go_sem, ↓wBk, simprocAttr])
  refine dE ?_
  (try simp (disch := first|omega|assumption|exact l_a rfl) only [go_sem, ↓wBk, simprocAttr, F, sagE])
  clear F Sc
  obtain ⟨M, S1, back⟩ := S.wkTim
  refine cI (SetT_ok num (w2.s.now + 30) S1 (by omega) W2.tg) ?_
  clear S
  intro v h S1
  (try simp (disch := first|omega|assumption|exact l_a rfl) only [go_sem, ↓wBk, simprocAttr])
  exact hK' _ _ ⟨rfl, back _ _ S1⟩
theorem sreceive_ok (num : Int) (S : St h0 h (wkA L D u w :: l)) (W : w.wf U m) (hU : U.length ≤ 200) : CallsH Tryz.prog 41 [.pointer (some ⟨L.p, 0, none⟩), .int .i64 num] h fun v h' => resE h0 L D u l (receiveP w num) v h' := by
 (refine eK c_saga_Saga_receive (l_a rfl) fun K hK => ?_; (try simp (disch := first|omega|assumption|exact l_a rfl) only [go_sem, ↓wBk, simprocAttr, ir_saga_Saga_receive]))
 refine cI (step_ok num 3 S W) ?_
 clear S
 intro v h hv
 have hd : receiveP w num = (stepP w num 3).bind fun w1 => let w2 := movesP w1 (w1.R (num - 1).toNat).us 2; .ok (stopTW w2 num) := rfl
 rw [hd] at hK
 cases hs : stepP w num 3 with
 | error e =>
  rw [hs] at hv hK
  obtain ⟨he, rfl, S⟩ := hv
  (try simp (disch := first|omega|assumption|exact l_a rfl) only [go_sem, ↓wBk, simprocAttr])
  exact hK _ _ ⟨he, rfl, S⟩
 | ok w1 =>
  rw [hs] at hv hK
  obtain ⟨i, b, hnum, hni, hi, hA, rfl, S⟩ := hv
  obtain ⟨W1, l1, _⟩ := step_wf hs W
  have hi1 : i < w1.s.R.length := by omega
  (try simp (disch := first|omega|assumption|exact l_a rfl) only [go_sem, ↓wBk, simprocAttr])
  refine cI (move_ok 2 S W1 hU hA hi1) ?_
  clear S
  intro v h S
  rw [← hni] at S
  obtain ⟨W2, r2⟩ := moves_wf (w1.R (num - 1).toNat).us 2 W1
  have hK' : ∀ (v : Value) (h' : Heap), resE h0 L D u l (.ok (stopTW (movesP w1 (w1.R (num - 1).toNat).us 2) num)) v h' → K v h' := hK
  clear hK
  generalize movesP w1 (w1.R (num - 1).toNat).us 2 = w2 at *
  have htl := W2.tl
  obtain ⟨sd, M, Sc, _⟩ := S.wkCell
  have F := Sc.all
  simp only [aC, aN, yC, and_true] at F
  (try simp (disch := first|omega|assumption|exact l_a rfl) only [go_sem, ↓wBk, simprocAttr, F, sagE])
  clear F Sc
  obtain ⟨M, S1, back⟩ := S.wkTim
  refine cI (StopT_ok num S1 (by omega) W2.tg) ?_
  clear S
  rintro v h ⟨_, S1⟩
  (try simp (disch := first|omega|assumption|exact l_a rfl) only [go_sem, ↓wBk, simprocAttr])
  exact hK' _ _ ⟨rfl, back _ _ S1⟩
end
end
section
set_option maxHeartbeats 8000000
section
variable {h0 h : Heap} {l : List HP} {L : Loc} {D : Cfg} {u : Value} {w : Wk} {U : List Unt} {m b i : Nat}
theorem settle_ok (by_ : Int) (hc : ∀ h', St h0 h' l → D.rd h') (hD : Stc D U) (S : St h0 h (wkA L D u w :: l)) (W : w.wf U m) (hm : m < 400000) (hA : L.A = some ⟨b, 0, none⟩) (hi : i < w.s.R.length) :
  CallsH Tryz.prog 79 [.pointer (some ⟨L.p, 0, none⟩), .pointer (some ⟨b, i * 14, none⟩), .int .i64 by_] h fun v h' => resE h0 L D u l (settleP D.ss w i by_) v h' := by
 have hss := hD.cfg.len.2.1
 obtain ⟨x, hx, hrd, _, _, _⟩ := S.wkRet hA hi
 have q6 := hrd 6 (by omega)
 simp only [RetV.enc, l_o, l_p, hx] at q6
 (refine eK c_saga_Saga_settle (l_a rfl) fun K hK => ?_; (try simp (disch := first|omega|assumption|exact l_a rfl) only [go_sem, ↓wBk, simprocAttr, ir_saga_Saga_settle]))
 (try simp (disch := first|omega|assumption|exact l_a rfl) only [go_sem, ↓wBk, simprocAttr, q6])
 refine cI (Next_ok _ by_ _) ?_
 rintro _ _ ⟨rfl, rfl⟩
 unfold nextR
 cases hnx : nextV (w.R i).state by_ with
 | none =>
  have hd : settleP D.ss w i by_ = .error 8 := by rw [settleP, hnx]
  rw [hd] at hK
  (try simp (disch := first|omega|assumption|exact l_a rfl) only [go_sem, ↓wBk, simprocAttr])
  exact hK _ _ ⟨by decide, rfl, S.tl⟩
 | some st =>
  have hd : settleP D.ss w i by_ = (wpost (w.put i { w.R i with state := st }) 0 1 (w.R i).worth).bind fun w1 =>
   let price := (priceOf D.ss (w1.R i).want).getD 0
   (if 0 ≤ (w1.R i).res then (if (w1.R i).worth < price then payP (releaseP w1 i) i (w1.R i).worth else payP (sayP w1 3 (w1.R i).num (w1.R i).res) i (w64 ((w1.R i).worth - price))) else payP w1 i (w1.R i).worth).map fun w2 => closeP w2 i := by rw [settleP, hnx]
  rw [hd] at hK
  clear hd
  have W1 : (w.put i { w.R i with state := st }).wf U m := W.putR hi rfl rfl
  have hR1 : (w.put i { w.R i with state := st }).R i = { w.R i with state := st } := R_put hi
  have hi1 : i < (w.put i { w.R i with state := st }).s.R.length := by rw [put_len]; exact hi
  (try simp (disch := first|omega|assumption|exact l_a rfl) only [go_sem, ↓wBk, simprocAttr])
  refine st_wkSet (r' := { w.R i with state := st }) S hA hi (j := 6) (by omega) rfl rfl rfl (fun x hx => by rw [RetV.enc, RetV.enc, hx]; rfl) ?_
  clear S hrd q6 hx
  intro h S
  generalize w.put i { w.R i with state := st } = w0 at *
  obtain ⟨x, hx, hrd, _, _, _⟩ := S.wkRet hA hi1
  have q10 := hrd 10 (by omega)
  simp only [RetV.enc, l_o, l_p, hx, hR1] at q10
  (try simp (disch := first|omega|assumption|exact l_a rfl) only [go_sem, ↓wBk, simprocAttr, q10])
  refine cI (post_ok 0 1 (w.R i).worth (by omega) S) ?_
  clear S hrd q10 hx
  intro v h hv
  cases hp : wpost w0 0 1 (w.R i).worth with
  | error e =>
   rw [hp] at hv hK
   obtain ⟨he, rfl, S⟩ := hv
   (try simp (disch := first|omega|assumption|exact l_a rfl) only [go_sem, ↓wBk, simprocAttr])
   exact hK _ _ ⟨he, rfl, S⟩
  | ok w1 =>
   rw [hp] at hv hK
   obtain ⟨rfl, S⟩ := hv
   obtain ⟨W2, r2⟩ := post_wf hp W1
   have hi2 : i < w1.s.R.length := by rw [r2]; exact hi1
   have hK' : ∀ (v : Value) (h' : Heap), resE h0 L D u l ((if 0 ≤ (w1.R i).res then (if (w1.R i).worth < (priceOf D.ss (w1.R i).want).getD 0 then payP (releaseP w1 i) i (w1.R i).worth else payP (sayP w1 3 (w1.R i).num (w1.R i).res) i (w64 ((w1.R i).worth - (priceOf D.ss (w1.R i).want).getD 0))) else payP w1 i (w1.R i).worth).map fun w2 => closeP w2 i) v h' → K v h' := hK
   clear hK hp hR1 W1 r2
   obtain ⟨x, hx, hrd, _, _, _⟩ := S.wkRet hA hi2
   have q10 := hrd 10 (by omega)
   have q4 := hrd 4 (by omega)
   simp only [RetV.enc, l_o, l_p, hx] at q10 q4
   (try simp (disch := first|omega|assumption|exact l_a rfl) only [go_sem, ↓wBk, simprocAttr, q10, q4])
   refine cC (fun ρ' h' => ρ' 0 = .pointer (some ⟨L.p, 0, none⟩) ∧ ρ' 1 = .pointer (some ⟨b, i * 14, none⟩) ∧ ∃ (w' : Wk) (rest : Int), ρ' 10 = .int .i64 rest ∧ w'.wf U (m + 1) ∧ w'.s.R.length = w1.s.R.length ∧ St h0 h' (wkA L D u w' :: l) ∧
    (if 0 ≤ (w1.R i).res then (if (w1.R i).worth < (priceOf D.ss (w1.R i).want).getD 0 then payP (releaseP w1 i) i (w1.R i).worth else payP (sayP w1 3 (w1.R i).num (w1.R i).res) i (w64 ((w1.R i).worth - (priceOf D.ss (w1.R i).want).getD 0))) else payP w1 i (w1.R i).worth) = payP w' i rest) ?_ ?_ ?_
   ·intro hb J hJ
    have hres := of_dcd_true hb
    obtain ⟨sd, M, Sc, _⟩ := S.wkCell
    have F := Sc.all
    simp only [aC, aN, yC, and_true] at F
    have q3 := hrd 3 (by omega)
    simp only [RetV.enc, l_o, l_p, hx] at q3
    (try simp (disch := first|omega|assumption|exact l_a rfl) only [go_sem, ↓wBk, simprocAttr])
    refine dE ?_
    (try simp (disch := first|omega|assumption|exact l_a rfl) only [go_sem, ↓wBk, simprocAttr, F, sagE, q3])
    rw [show [Value.slice D.A1 D.os.length D.c1, .slice D.A2 D.ss.length D.c2, .slice D.A3 D.ps.length D.c3] = D.enc from rfl]
    refine cI (OPrice_ok D _ (hc _ S.tl).ss (by omega)) ?_
    clear Sc F hrd q10 q4 q3
    rintro _ h ⟨rfl, f1⟩
    have S := S.frame f1
    clear f1
    obtain ⟨x, hx, hrd, _, _, _⟩ := S.wkRet hA hi2
    have q10 := hrd 10 (by omega)
    have q0 := hrd 0 (by omega)
    have q4 := hrd 4 (by omega)
    simp only [RetV.enc, l_o, l_p, hx, Nat.add_zero] at q10 q0 q4
    obtain ⟨price, hpr⟩ : ∃ price, price = (priceOf D.ss (w1.R i).want).getD 0 := ⟨_, rfl⟩
    rw [← hpr] at hJ ⊢
    by_cases hlt : (w1.R i).worth < price
    ·(try simp (disch := first|omega|assumption|exact l_a rfl) only [go_sem, ↓wBk, simprocAttr, q10])
     refine cI (release_ok S W2 hD.ul hA hi2) ?_
     clear S hrd q10 q0 q4
     intro v h S
     refine hJ _ _ ?_
     (try simp (disch := first|omega|assumption|exact l_a rfl) only [go_sem, ↓wBk, simprocAttr])
     exact ⟨_, _, rfl, (W2.release hi2).up (by omega), release_len _ _, S, by rw [if_pos hres, if_pos hlt]⟩
    ·(try simp (disch := first|omega|assumption|exact l_a rfl) only [go_sem, ↓wBk, simprocAttr, q10])
     refine dE ?_
     (try simp (disch := first|omega|assumption|exact l_a rfl) only [go_sem, ↓wBk, simprocAttr, q0, q4])
     refine cI (say_ok 3 _ _ S W2 (by omega)) ?_
     clear S hrd q10 q0 q4
     intro v h S
     (try simp (disch := first|omega|assumption|exact l_a rfl) only [go_sem, ↓wBk, simprocAttr])
     refine hJ _ _ ?_
     (try simp (disch := first|omega|assumption|exact l_a rfl) only [go_sem, ↓wBk, simprocAttr])
     exact ⟨_, _, rfl, W2.say _ _ _, rfl, S, by rw [if_pos hres, if_neg hlt]⟩
   ·intro hb J hJ
    have hres := of_dcd_false hb
    (try simp (disch := first|omega|assumption|exact l_a rfl) only [go_sem, ↓wBk, simprocAttr])
    refine hJ _ _ ?_
    (try simp (disch := first|omega|assumption|exact l_a rfl) only [go_sem, ↓wBk, simprocAttr])
    exact ⟨_, _, rfl, W2.up (by omega), rfl, S, by rw [if_neg hres]⟩
   clear S hrd q10 q4 hx
   rintro ρ' h ⟨e0, e1, w', rest, e10, W', l', S, heq⟩
   rw [heq] at hK'
   clear heq
   have hi' : i < w'.s.R.length := by omega
   (try simp (disch := first|omega|assumption|exact l_a rfl) only [go_sem, ↓wBk, simprocAttr, e0, e1, e10])
   refine cI (pay_ok rest S W' (by omega) hA hi') ?_
   clear S
   intro v h hv
   cases hp : payP w' i rest with
   | error e =>
    rw [hp] at hv hK'
    obtain ⟨he, rfl, S⟩ := hv
    (try simp (disch := first|omega|assumption|exact l_a rfl) only [go_sem, ↓wBk, simprocAttr])
    exact hK' _ _ ⟨he, rfl, S⟩
   | ok w3 =>
    rw [hp] at hv hK'
    obtain ⟨rfl, S⟩ := hv
    obtain ⟨W3, l3⟩ := pay_wf hi' hp W'
    (try simp (disch := first|omega|assumption|exact l_a rfl) only [go_sem, ↓wBk, simprocAttr, e0, e1])
    refine cI (close_ok S W3 (by omega) hA (by omega)) ?_
    clear S
    rintro _ h ⟨rfl, S⟩
    (try simp (disch := first|omega|assumption|exact l_a rfl) only [go_sem, ↓wBk, simprocAttr])
    exact hK' _ _ ⟨rfl, S⟩
end
end
end Go.Proofs.YtijnkebgciaieaaGreat.MX
