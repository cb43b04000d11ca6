import Derived.Test.YtcgbhcgfdcfmaaaGreatK32
namespace Go.Proofs.YtcgbhcgfdcfmaaaGreat.MX
open Go Go.Proofs
set_option linter.unusedSimpArgs false
set_option linter.unusedVariables false
section
set_option maxHeartbeats 8000000
theorem release_now (w : Wk) (i : Nat) : (releaseP w i).s.now = w.s.now := by
 unfold releaseP
 split <;> rfl
theorem end_now {w w' : Wk} {num by_ : Int} (h : endP w num by_ = .ok w') : w'.s.now = w.s.now := by
 unfold endP at h
 split at h
 ·cases h
 ·split at h
  ·cases h
  ·cases h
   exact release_now _ _
theorem post_now {w w' : Wk} {a b sum : Int} (h : wpost w a b sum = .ok w') : w'.s.now = w.s.now := by
 obtain ⟨l, _, rfl⟩ := map_ok h
 rfl
theorem pay_now {w w' : Wk} {i : Nat} {sum : Int} (h : payP w i sum = .ok w') : w'.s.now = w.s.now := by
 unfold payP at h
 split at h
 ·cases h; rfl
 ·split at h
  ·exact (post_now (show wpost _ _ _ _ = _ from h)).trans rfl
  ·cases h; rfl
theorem close_now (w : Wk) (i : Nat) : (closeP w i).s.now = w.s.now := by
 unfold closeP
 split <;> rfl
theorem settle_now {ss : List Sup} {w w' : Wk} {i : Nat} {by_ : Int} (h : settleP ss w i by_ = .ok w') : w'.s.now = w.s.now := by
 unfold settleP at h
 split at h
 ·cases h
 ·obtain ⟨w1, h1, h⟩ := bind_ok h
  obtain ⟨w2, h2, rfl⟩ := map_ok h
  rw [close_now]
  have e1 := post_now h1
  have e2 : w2.s.now = w1.s.now := by
   split at h2
   ·split at h2
    ·rw [pay_now h2, release_now]
    ·rw [pay_now h2]; rfl
   ·exact pay_now h2
  rw [e2, e1]
  rfl
theorem lose_now (U : List Unt) (w : Wk) (i : Nat) : ∀ j, (loseTo U w i j).s.now = w.s.now
 | 0 => rfl
 | j + 1 => lose_now U w i j
theorem due_now {ss : List Sup} {U : List Unt} {w w' : Wk} {num : Int} (h : dueP ss U w num = .ok w') : w'.s.now = w.s.now := by
 unfold dueP at h
 split at h
 ·cases h
 ·split at h
  ·rw [settle_now h, lose_now]
  ·split at h
   ·exact end_now h
   ·cases h; rfl
section
variable {h0 h : Heap} {l : List HP} {L : Loc} {D : Cfg} {u : Value} {w : Wk} {U : List Unt} {m b i : Nat} {Au : Option Addr} {cu : Nat}
theorem tick_ok (days : Int) (hc : ∀ h', St h0 h' l → D.rd h') (hu : ∀ h', St h0 h' l → Arr Unt.enc 4 h' Au U) (hD : Stc D U) (S : St h0 h (wkA L D (.slice Au U.length cu) w :: l)) (W : w.wf U m) (hm : m < 300000) (hd64 : I64 days) :
  CallsH Tryz.prog 55 [.pointer (some ⟨L.p, 0, none⟩), .int .i64 days] h fun v h' => resT h0 L D (.slice Au U.length cu) l (tickP D.ss U w days) v h' := by
 have hnow := W.now
 have htl := W.tl
 have hd : tickP D.ss U w days = if days < 1 ∨ 1000 < days then .error 1 else if 100000 < w.s.now + days then .error 2 else
  (foldE (dueP D.ss U) { w with s := { w.s with now := w.s.now + days, T := lateT w.s.T (w.s.now + days) } } ((dueT w.s.T (w.s.now + days)).map Tm.num)).bind fun w1 =>
   (foldE (fun w (m : Msg) => endP w m.rma 8) { w1 with s := { w1.s with O := leftOf (w.s.now + days) w1.s.O } } (givenOf (w.s.now + days) w1.s.O)).map fun w2 => (w2, saidOf (w.s.now + days) w1.s.O) := rfl
 rw [hd]
 clear hd
 by_cases d1 : days < 1
 ·rw [if_pos (.inl d1)]
  refine EN i55.eq_1 fun K hK => ?_
  refine Wa ?_
  exact hK _ _ ⟨by decide, rfl, S.tl⟩
 by_cases d2 : 1000 < days
 ·rw [if_pos (.inr d2)]
  refine EN i55.eq_1 fun K hK => ?_
  refine Wa ?_
  exact hK _ _ ⟨by decide, rfl, S.tl⟩
 rw [if_neg (fun h => h.elim d1 d2)]
 obtain ⟨sd, M, Sc, back⟩ := S.wkCell
 have F := Sc.fx
 by_cases d3 : 100000 < w.s.now + days
 ·rw [if_pos d3]
  refine EN i55.eq_1 fun K hK => ?_
  refine Wc F @sagE.eq_1 ?_
  exact hK _ _ ⟨by decide, rfl, S.tl⟩
 rw [if_neg d3]
 clear S
 refine EN i55.eq_1 fun K hK => ?_
 refine Wc F @sagE.eq_1 ?_
 refine tS Sc rfl rfl (l_a rfl) ?_
 clear Sc F
 intro h S
 rw [sagE] at S
 replace S := S.nm
 obtain ⟨now, hnw⟩ : ∃ now, now = w.s.now + days := ⟨_, rfl⟩
 rw [← hnw] at S hK d3
 have hnow' : 0 ≤ now ∧ now ≤ 100000 := by omega
 have S : St h0 h (wkA L D (.slice Au U.length cu) { w with s := { w.s with now := now } } :: l) := back _ { w.s with now := now } rfl rfl rfl rfl rfl S
 clear back
 obtain ⟨sd, M, Sc, _⟩ := S.wkCell
 have F := Sc.fx
 refine Wa ?_
 refine dE ?_
 refine Wc F @sagE.eq_1 ?_
 clear Sc F
 obtain ⟨M, St1, back⟩ := S.wkTimX
 refine cI (DueT_ok now St1 (by show w.s.T.length < _; omega)) ?_
 clear S St1
 intro v h S
 obtain ⟨w0, hw0⟩ : ∃ w0 : Wk, w0 = { w with s := { w.s with now := now, T := lateT w.s.T now } } := ⟨_, rfl⟩
 have S : St h0 h (wkA L D (.slice Au U.length cu) w0 :: ([ownA iEnc 1 3 v ((dueT w.s.T now).map Tm.num)] ++ l)) := by
  rw [hw0]
  exact back h _ [ownA iEnc 1 3 v ((dueT w.s.T now).map Tm.num)] S.p1
 have W0 : w0.wf U m := by rw [hw0]; exact W.late hnow'
 have hn0 : w0.s.now = now := by rw [hw0]
 rw [← hw0] at hK
 clear back hw0
 have hdl := due_len w.s.T now
 have hdn : ((dueT w.s.T now).map Tm.num).length ≤ 100 := by rw [l_z]; omega
 generalize (dueT w.s.T now).map Tm.num = ds at *
 obtain ⟨A, c, rfl⟩ := S.p1.sl
 have S : St h0 h (wkA L D (.slice Au U.length cu) w0 :: ownA iEnc 1 3 (.slice A ds.length c) ds :: l) := S
 refine Wa ?_
 refine lI (fun ρ h' => ρ 0 = .pointer (some ⟨L.p, 0, none⟩) ∧ ρ 45 = .slice A ds.length c ∧ ρ 46 = .int .i64 ds.length ∧ ∃ (j : Nat) (w1 : Wk), ρ 47 = .int .i64 j ∧ j ≤ ds.length ∧ foldE (dueP D.ss U) w0 (ds.take j) = .ok w1 ∧ w1.wf U (m + 2 * j) ∧ w1.s.now = now ∧
  St h0 h' (wkA L D (.slice Au U.length cu) w1 :: ownA iEnc 1 3 (.slice A ds.length c) ds :: l)) (fun ρ _ => ds.length - (iv (ρ 47)).toNat) ?_ ?_
 ·refine Wa ?_
  exact ⟨0, w0, rfl, by omega, rfl, W0.up (by omega), hn0, S⟩
 clear S
 rintro ρ h J hJ ⟨e0, e45, e46, j, w1, e47, hj, hf, W1, hn1, S⟩
 refine Wc e46 e47 ?_
 refine cD (fun hlt => ?_) (fun hlt => ?_)
 ·have hjl : j < ds.length := by omega
  obtain ⟨b1, o1, rfl, q1⟩ := (S.p1.arr iEnc_len).at hjl
  have q1 := rP0 q1 (by omega)
  simp only [iEnc, l_o, Nat.mul_one] at q1
  obtain ⟨ferr, fok⟩ := foldE_at (dueP D.ss U) hjl hf
  generalize ds[j] = num at *
  refine Wf e0 e45 e47 q1 @Nat.mul_one ?_
  refine cI (due_ok num (fun h' S => hc h' S.tl) (fun h' S => hu h' S.tl) hD S W1 (by omega)) ?_
  clear S q1
  intro v h hv
  cases hdu : dueP D.ss U w1 num with
  | error e =>
   rw [hdu] at hv
   obtain ⟨he, rfl, S⟩ := hv
   have hfe := ferr e hdu
   rw [hfe] at hK
   refine Wa ?_
   exact hK _ _ ⟨he, rfl, S.tl⟩
  | ok w2 =>
   rw [hdu] at hv
   obtain ⟨rfl, S⟩ := hv
   have hn2 : w2.s.now = now := by rw [due_now hdu]; exact hn1
   refine Wb e47 ?_
   refine hJ _ _ ?_ ?_
   ·refine Wd e0 e45 e46 ?_
    exact ⟨j + 1, w2, rfl, by omega, fok w2 hdu, (due_wf hdu W1).1.up (by omega), hn2, S⟩
   ·refine Wb e47 ?_
    omega
 obtain rfl : j = ds.length := by omega
 rw [l_aj] at hf
 rw [hf] at hK
 have hK' : ∀ (v : Value) (h' : Heap), resT h0 L D (.slice Au U.length cu) l ((foldE (fun w (m : Msg) => endP w m.rma 8) { w1 with s := { w1.s with O := leftOf now w1.s.O } } (givenOf now w1.s.O)).map fun w2 => (w2, saidOf now w1.s.O)) v h' → K v h' := hK
 clear hK hJ hf e45 e46 e47
 have S := S.d1
 have hol := W1.ol
 have W1' : w1.wf U (m + 200) := W1.up (by omega)
 clear W1
 obtain ⟨sd, M, Sc, _⟩ := S.wkCell
 have F := Sc.fx
 refine Wa ?_
 refine dE ?_
 refine We e0 F @sagE.eq_1 hn1 ?_
 clear Sc F
 obtain ⟨M, So, back⟩ := S.wkObxX
 refine cI (AgainO_ok now So (by omega) ⟨by omega, by omega⟩ (fun x hx => by have := W1'.ot x hx; omega)) ?_
 clear S So
 rintro _ h ⟨s1, s2, rfl, S⟩
 obtain ⟨w2, hw2⟩ : ∃ w2 : Wk, w2 = { w1 with s := { w1.s with O := leftOf now w1.s.O } } := ⟨_, rfl⟩
 have S : St h0 h (wkA L D (.slice Au U.length cu) w2 :: ([ownA Msg.enc 6 44 s1 (saidOf now w1.s.O), ownA Msg.enc 6 44 s2 (givenOf now w1.s.O)] ++ l)) := by
  rw [hw2]
  exact back h _ _ [_, _] S.p2
 have W2 : w2.wf U (m + 201) := by rw [hw2]; exact W1'.left now
 rw [← hw2] at hK'
 clear back hw2
 have hgl : (givenOf now w1.s.O).length ≤ 1000000 := by
  have h1 := flatMap_le (given1 now) (given1_le now) w1.s.O
  unfold givenOf
  omega
 generalize givenOf now w1.s.O = gs at *
 generalize saidOf now w1.s.O = ss at *
 obtain ⟨A, c, rfl⟩ := S.p2.sl
 have S : St h0 h (wkA L D (.slice Au U.length cu) w2 :: ownA Msg.enc 6 44 s1 ss :: ownA Msg.enc 6 44 (.slice A gs.length c) gs :: l) := S
 refine Wa ?_
 refine lI (fun ρ h' => ρ 0 = .pointer (some ⟨L.p, 0, none⟩) ∧ ρ 9 = s1 ∧ ρ 70 = .slice A gs.length c ∧ ρ 71 = .int .i64 gs.length ∧ ∃ (j : Nat) (w3 : Wk), ρ 72 = .int .i64 j ∧ j ≤ gs.length ∧ foldE (fun w (m : Msg) => endP w m.rma 8) w2 (gs.take j) = .ok w3 ∧ w3.wf U (m + 201) ∧
  St h0 h' (wkA L D (.slice Au U.length cu) w3 :: ownA Msg.enc 6 44 s1 ss :: ownA Msg.enc 6 44 (.slice A gs.length c) gs :: l)) (fun ρ _ => gs.length - (iv (ρ 72)).toNat) ?_ ?_
 ·refine Wb e0 ?_
  exact ⟨0, w2, rfl, by omega, rfl, W2, S⟩
 clear S e0
 rintro ρ h J hJ ⟨e0, e9, e70, e71, j, w3, e72, hj, hf, W3, S⟩
 refine Wc e71 e72 ?_
 refine cD (fun hlt => ?_) (fun hlt => ?_)
 ·have hjl : j < gs.length := by omega
  obtain ⟨b1, o1, rfl, q1⟩ := (S.p2.arr enc_len).at hjl
  obtain ⟨ferr, fok⟩ := foldE_at (fun w (m : Msg) => endP w m.rma 8) hjl hf
  generalize gs[j] = x at *
  refine Wd e70 e72 q1 ?_
  (revert S; (try clear F); refine AL fun q h S F => ?_)
  refine Wc F @Msg.enc.eq_1 ?_
  (revert S; (try clear F); refine ST fun h S F => ?_)
  refine Wc e0 F ?_
  refine cI (end_ok x.rma 8 S.p1 W3 (by omega) hD.ul) ?_
  clear S F q1
  intro v h hv
  cases hdu : endP w3 x.rma 8 with
  | error e =>
   rw [hdu] at hv
   obtain ⟨he, rfl, S⟩ := hv
   have hfe := ferr e hdu
   rw [hfe] at hK'
   refine Wa ?_
   exact hK' _ _ ⟨he, rfl, S.tl.tl.tl⟩
  | ok w4 =>
   rw [hdu] at hv
   obtain ⟨rfl, S⟩ := hv
   refine Wb e72 ?_
   refine hJ _ _ ?_ ?_
   ·refine We e0 e9 e70 e71 ?_
    exact ⟨j + 1, w4, rfl, by omega, fok w4 hdu, (end_wf hdu W3).1, S.d1⟩
   ·refine Wb e72 ?_
    omega
 obtain rfl : j = gs.length := by omega
 rw [l_aj] at hf
 rw [hf] at hK'
 refine Wb e9 ?_
 exact hK' _ _ ⟨s1, rfl, S.p2.tl⟩
end
end
section
set_option maxHeartbeats 8000000
section
variable {h0 h : Heap} {l : List HP} {L : Loc} {D : Cfg} {u : Value} {w : Wk} {U : List Unt} {m b i : Nat}
theorem paid_ok (sum : Int) (yes : Bool) (S : St h0 h (wkA L D u w :: l)) (hA : L.A = some ⟨b, 0, none⟩) (hi : i < w.s.R.length) : CallsH Tryz.prog 98 [.pointer (some ⟨L.p, 0, none⟩), .pointer (some ⟨b, i * 14, none⟩), .int .i64 sum, .bool yes] h fun v h' => resE h0 L D u l (paidP w i sum yes) v h' := by
 cases yes with
 | false =>
  have hd : paidP w i sum false = creditP w i sum := rfl
  rw [hd]
  refine EN i98.eq_1 fun K hK => ?_
  refine Wa ?_
  refine cI (credit_ok sum S hA hi) ?_
  intro v h hv
  refine Wa ?_
  exact hK _ _ hv
 | true =>
  have hd : paidP w i sum true = wpost (w.put i { w.R i with paid := w64 ((w.R i).paid + sum) }) 1 2 sum := rfl
  rw [hd]
  obtain ⟨x, hx, hrd, _, _, _⟩ := S.wkRet hA hi
  have q := hrd 11 (by omega)
  simp only [RetV.enc, l_o, l_p, hx] at q
  refine EN i98.eq_1 fun K hK => ?_
  refine Wb q ?_
  refine st_wkSet (r' := { w.R i with paid := w64 ((w.R i).paid + sum) }) S hA hi (j := 11) (by omega) rfl rfl rfl (fun x hx => by rw [RetV.enc, RetV.enc, hx]; rfl) ?_
  clear S hrd q
  intro h S
  refine Wa ?_
  refine cI (post_ok 1 2 sum (by omega) S) ?_
  clear S
  intro v h hv
  refine Wa ?_
  exact hK _ _ hv
theorem shipped_ok (yes : Bool) (hc : ∀ h', St h0 h' l → D.rd h') (hD : Stc D U) (S : St h0 h (wkA L D u w :: l)) (W : w.wf U m) (hm : m < 400000) (hA : L.A = some ⟨b, 0, none⟩) (hi : i < w.s.R.length) : CallsH Tryz.prog 99 [.pointer (some ⟨L.p, 0, none⟩), .pointer (some ⟨b, i * 14, none⟩), .bool yes] h fun v h' => resE h0 L D u l (shippedP D.ss w i yes) v h' := by
 have hss := hD.cfg.len.2.1
 have hkl := W.kl
 have hul := hD.ul
 obtain ⟨x, hx, hrd, _, _, _⟩ := S.wkRet hA hi
 obtain ⟨sd, M, Sc, _⟩ := S.wkCell
 have F := Sc.fx
 have q3 := hrd 3 (by omega)
 simp only [RetV.enc, l_o, l_p, hx] at q3
 refine EN i99.eq_1 fun K hK => Wa ?_
 refine dE ?_
 refine Wd F @sagE.eq_1 q3 ?_
 rw [show [Value.slice D.A1 D.os.length D.c1, .slice D.A2 D.ss.length D.c2, .slice D.A3 D.ps.length D.c3] = D.enc from rfl]
 refine cI (OPrice_ok D _ (hc _ S.tl).ss (by omega)) ?_
 clear Sc F hrd q3 hx
 rintro _ h ⟨rfl, f1⟩
 have S := S.frame f1
 clear f1
 obtain ⟨price, hpr⟩ : ∃ price, price = (priceOf D.ss (w.R i).want).getD 0 := ⟨_, rfl⟩
 rw [← hpr]
 cases yes with
 | false =>
  have hd : shippedP D.ss w i false = payP (releaseP w i) i price := by rw [hpr]; rfl
  rw [hd] at hK
  refine Wa ?_
  refine cI (release_ok S W hul hA hi) ?_
  clear S
  intro v h S
  refine Wa ?_
  refine cI (pay_ok price S (W.release hi) (by omega) hA (by rw [release_len]; exact hi)) ?_
  clear S
  intro v h hv
  refine Wa ?_
  exact hK _ _ hv
 | true =>
  obtain ⟨w1, hw1⟩ : ∃ w1, w1 = w.put i { w.R i with given := w64 ((w.R i).given + price) } := ⟨_, rfl⟩
  have hd : shippedP D.ss w i true = if moveE w1.s.K (w1.R i).res 8 = 0 then wpost (w1.mv (w1.R i).res 8) 1 4 price else .error (moveE w1.s.K (w1.R i).res 8) := by rw [hw1, hpr]; rfl
  rw [hd] at hK
  have W1 : w1.wf U m := by rw [hw1]; exact W.putR hi rfl rfl
  have hi1 : i < w1.s.R.length := by rw [hw1, put_len]; exact hi
  obtain ⟨x, hx, hrd, _, _, _⟩ := S.wkRet hA hi
  have q := hrd 13 (by omega)
  simp only [RetV.enc, l_o, l_p, hx] at q
  refine Wb q ?_
  refine st_wkSet (r' := { w.R i with given := w64 ((w.R i).given + price) }) S hA hi (j := 13) (by omega) rfl rfl rfl (fun x hx => by rw [RetV.enc, RetV.enc, hx]; rfl) ?_
  clear S hrd q hx
  intro h S
  rw [← hw1] at S
  clear hw1 hd
  have hkl1 := W1.kl
  obtain ⟨x, hx, hrd, _, _, _⟩ := S.wkRet hA hi1
  have q4 := hrd 4 (by omega)
  simp only [RetV.enc, l_o, l_p, hx] at q4
  obtain ⟨sd, M, Sc, _⟩ := S.wkCell
  have F := Sc.fx
  refine Wa ?_
  refine dE ?_
  refine Wd q4 F @sagE.eq_1 ?_
  clear Sc F hrd q4 hx
  obtain ⟨M, Sk, back⟩ := S.wkStock
  refine cI (Move_ok _ 8 Sk (by omega)) ?_
  clear S Sk
  rintro _ h ⟨rfl, Sk⟩
  have S := back _ _ Sk
  clear back Sk
  by_cases he : moveE w1.s.K (w1.R i).res 8 = 0
  ·rw [if_pos he] at hK
   refine Wa ?_
   refine cI (post_ok 1 4 price (by omega) S) ?_
   clear S
   intro v h hv
   refine Wa ?_
   exact hK _ _ hv
  ·rw [if_neg he] at hK
   refine Wa ?_
   exact hK _ _ ⟨he, rfl, S.tl⟩
theorem idx_find {O : List Msg} {key : Int} : (idxOf (fun m : Msg => decide (m.key = key)) O 0 = -1 → O.findIdx? (fun m => decide (m.key = key)) = none) ∧ ∀ j : Nat, j < O.length → idxOf (fun m : Msg => decide (m.key = key)) O 0 = j → O.findIdx? (fun m => decide (m.key = key)) = some j := by
 rcases idxOf_spec (fun m : Msg => decide (m.key = key)) O 0 with ⟨hx, hall⟩ | ⟨k, hx, hkl, hbef, hat⟩
 ·refine ⟨fun _ => ?_, fun j hj h => ?_⟩
  ·rw [List.findIdx?_eq_none_iff]
   exact hall
  ·have hx : idxOf (fun m : Msg => decide (m.key = key)) O 0 = -1 := hx
   rw [hx] at h; omega
 ·have hx : idxOf (fun m : Msg => decide (m.key = key)) O 0 = (k : Int) := by simpa using hx
  refine ⟨fun h => ?_, fun j hj h => ?_⟩
  ·rw [hx] at h; omega
  ·rw [hx] at h
   obtain rfl : k = j := by omega
   rw [List.findIdx?_eq_some_iff_getElem]
   refine ⟨hj, hat _ (l_r hj), fun i hi => ?_⟩
   have := hbef (O[i]'(by omega)) (by
    rw [List.mem_take_iff_getElem]
    exact ⟨i, by omega, rfl⟩)
   rw [this]
   decide
end
end
section
set_option maxHeartbeats 8000000
section
variable {h0 h : Heap} {l : List HP} {L : Loc} {D : Cfg} {u : Value} {w : Wk} {U : List Unt} {m b i : Nat}
theorem reply_ok (key : Int) (yes : Bool) (hc : ∀ h', St h0 h' l → D.rd h') (hD : Stc D U) (S : St h0 h (wkA L D u w :: l)) (W : w.wf U m) (hm : m < 400000) : CallsH Tryz.prog 56 [.pointer (some ⟨L.p, 0, none⟩), .int .i64 key, .bool yes] h fun v h' => resE h0 L D u l (replyP D.ss w key yes) v h' := by
 have hol := W.ol
 have hul := hD.ul
 obtain ⟨sd, M, Sc, _⟩ := S.wkCell
 have F := Sc.fx
 refine EN i56.eq_1 fun K hK => ?_
 refine Wc F @sagE.eq_1 ?_
 clear Sc F
 obtain ⟨M, So, back⟩ := S.wkObx
 refine cI (HeardO_ok key So (by omega)) ?_
 clear S So
 rintro _ h (⟨hn, rfl, So⟩ | ⟨j, hj, hix, rfl, So⟩)
 ·have hd : replyP D.ss w key yes = .error 16 := by rw [replyP, idx_find.1 hn]
  rw [hd] at hK
  have S := back _ _ _ So
  refine Wc @Msg.enc.eq_1 @Msg.zero.eq_1 ?_
  (revert S; (try clear F); refine AL fun q h S F => ?_)
  refine Wa ?_
  refine tS S rfl rfl (l_a rfl) ?_
  clear S F
  intro h S
  refine Wa ?_
  exact hK _ _ ⟨by decide, rfl, S.tl.tl⟩
 have hidx := idx_find.2 j hj hix
 obtain ⟨w1, hw1⟩ : ∃ w1 : Wk, w1 = { w with s := { w.s with O := w.s.O.take j ++ w.s.O.drop (j + 1) } } := ⟨_, rfl⟩
 obtain ⟨x, hxm⟩ : ∃ x : Msg, x = w.s.O[j] := ⟨_, rfl⟩
 have hgd : w.s.O.getD j Msg.zero = x := by rw [hxm, l_s, l_r hj]; rfl
 have S : St h0 h (wkA L D u w1 :: l) := by rw [hw1]; exact back _ _ _ So
 clear back So
 have hsub : (w.s.O.take j ++ w.s.O.drop (j + 1)).Sublist w.s.O := by
  conv => rhs; rw [← List.take_append_drop j w.s.O]
  exact List.Sublist.append_left (by rw [← List.drop_drop]; exact List.drop_sublist _ _) _
 have W1 : w1.wf U m := by
  rw [hw1]
  exact ⟨W.kl, W.rl, W.rr, W.tg, W.tn, Nat.le_trans hsub.length_le W.ol, fun x hx => W.ot x (hsub.subset hx), W.key, W.sl, W.now⟩
 have hd : replyP D.ss w key yes = match w1.s.at_ x.rma with
  | none => .error 7
  | some _ => if x.kind = 1 ∧ yes = false then endP w1 x.rma 8 else
    (if x.kind = 1 then stepP w1 x.rma 1 else if x.kind = 2 then paidP w1 (x.rma - 1).toNat x.value yes else if x.kind = 3 then shippedP D.ss w1 (x.rma - 1).toNat yes
     else if moveE w1.s.K x.value (backTo yes) = 0 then .ok (w1.mv x.value (backTo yes)) else .error (moveE w1.s.K x.value (backTo yes))).map fun w2 => closeP w2 (x.rma - 1).toNat := by
  unfold replyP
  rw [hidx]
  simp only [hgd]
  rw [hw1]
  rfl
 rw [hd] at hK
 clear hd hw1 hgd hidx hix hsub
 rw [← hxm]
 clear hxm hj hol W
 refine Wb @Msg.enc.eq_1 ?_
 (revert S; (try clear F); refine AL fun q h S F => ?_)
 refine Wa ?_
 refine tS S rfl rfl (l_a rfl) ?_
 clear S F
 intro h S
 replace S := S.nm
 have S : St h0 h (wkA L D u w1 :: cellA q x.enc 44 :: l) := S.p1
 have hc' : ∀ h', St h0 h' (cellA q x.enc 44 :: l) → D.rd h' := fun h' S => hc h' S.tl
 ((try clear F); have F := S.fx)
 refine Wc F @Msg.enc.eq_1 ?_
 refine cI (of_ok x.rma S W1) ?_
 rintro _ _ ⟨rfl, ⟨hn, rfl⟩ | ⟨i, b, hnum, hni, hi, hat, hA, rfl⟩⟩
 ·rw [hn] at hK
  refine Wa ?_
  exact hK _ _ ⟨by decide, rfl, S.tl.tl⟩
 rw [hat, hni] at hK
 have hkl := W1.kl
 by_cases k1 : x.kind = 1
 ·cases yes with
  | false =>
   simp only [k1, and_self, if_true] at hK
   refine Wc F @Msg.enc.eq_1 ?_
   refine cI (end_ok x.rma 8 S W1 (by omega) hul) ?_
   clear S F
   intro v h hv
   refine Wa ?_
   refine hK _ _ ?_
   cases hp : endP w1 x.rma 8 with
   | error e =>
    rw [hp] at hv
    exact ⟨hv.1, hv.2.1, hv.2.2.tl⟩
   | ok w2 =>
    rw [hp] at hv
    exact ⟨hv.1, hv.2.d1⟩
  | true =>
   simp only [k1, Bool.true_eq_false, and_false, if_false, if_true] at hK
   refine Wc F @Msg.enc.eq_1 ?_
   refine cI (step_ok x.rma 1 S W1) ?_
   clear S F
   intro v h hv
   cases hp : stepP w1 x.rma 1 with
   | error e =>
    rw [hp] at hv hK
    obtain ⟨he, rfl, S⟩ := hv
    refine Wa ?_
    exact hK _ _ ⟨he, rfl, S.tl⟩
   | ok w2 =>
    rw [hp] at hv hK
    obtain ⟨i', b', hnum', hni', hi', hA', rfl, S⟩ := hv
    obtain ⟨W2, l2, _⟩ := step_wf hp W1
    refine Wa ?_
    refine cI (close_ok S W2 (by omega) hA (by omega)) ?_
    clear S
    rintro _ h ⟨rfl, S⟩
    refine Wa ?_
    exact hK _ _ ⟨rfl, S.d1⟩
 have hk1 : ∀ yes, ¬ (x.kind = 1 ∧ yes = false) := fun _ h => k1 h.1
 simp only [k1, false_and, if_false] at hK
 by_cases k2 : x.kind = 2
 ·rw [if_pos k2] at hK
  refine Wc F @Msg.enc.eq_1 ?_
  refine cI (paid_ok x.value yes S hA hi) ?_
  clear S F
  intro v h hv
  cases hp : paidP w1 i x.value yes with
  | error e =>
   rw [hp] at hv hK
   obtain ⟨he, rfl, S⟩ := hv
   refine Wa ?_
   exact hK _ _ ⟨he, rfl, S.tl⟩
  | ok w2 =>
   rw [hp] at hv hK
   obtain ⟨rfl, S⟩ := hv
   obtain ⟨W2, l2⟩ := paid_wf hi hp W1
   refine Wa ?_
   refine cI (close_ok S W2 (by omega) hA (by omega)) ?_
   clear S
   rintro _ h ⟨rfl, S⟩
   refine Wa ?_
   exact hK _ _ ⟨rfl, S.d1⟩
 rw [if_neg k2] at hK
 by_cases k3 : x.kind = 3
 ·rw [if_pos k3] at hK
  refine Wc F @Msg.enc.eq_1 ?_
  refine cI (shipped_ok yes hc' hD S W1 hm hA hi) ?_
  clear S F
  intro v h hv
  cases hp : shippedP D.ss w1 i yes with
  | error e =>
   rw [hp] at hv hK
   obtain ⟨he, rfl, S⟩ := hv
   refine Wa ?_
   exact hK _ _ ⟨he, rfl, S.tl⟩
  | ok w2 =>
   rw [hp] at hv hK
   obtain ⟨rfl, S⟩ := hv
   obtain ⟨W2, l2⟩ := shipped_wf hi hp W1
   refine Wa ?_
   refine cI (close_ok S W2 (by omega) hA (by omega)) ?_
   clear S
   rintro _ h ⟨rfl, S⟩
   refine Wa ?_
   exact hK _ _ ⟨rfl, S.d1⟩
 rw [if_neg k3] at hK
 obtain ⟨sd, M, Sc, _⟩ := S.wkCell
 have F2 := Sc.fx
 cases yes with
 | true =>
  rw [show backTo true = 0 from rfl] at hK
  refine Wc F @Msg.enc.eq_1 ?_
  refine dE ?_
  refine We F F2 @sagE.eq_1 @Msg.enc.eq_1 ?_
  clear Sc F2 F
  obtain ⟨M, Sk, back⟩ := S.wkStock
  refine cI (Move_ok x.value 0 Sk (by omega)) ?_
  clear S Sk
  rintro _ h ⟨rfl, Sk⟩
  have S := back _ _ Sk
  clear back Sk
  by_cases he : moveE w1.s.K x.value 0 = 0
  ·rw [if_pos he] at hK
   refine Wb he ?_
   refine cI (close_ok S (W1.mv _ _) (by omega) hA hi) ?_
   clear S
   rintro _ h ⟨rfl, S⟩
   refine Wa ?_
   exact hK _ _ ⟨rfl, S.d1⟩
  ·rw [if_neg he] at hK
   refine Wa ?_
   exact hK _ _ ⟨he, rfl, S.tl.tl⟩
 | false =>
  rw [show backTo false = 6 from rfl] at hK
  refine Wc F @Msg.enc.eq_1 ?_
  refine dE ?_
  refine We F F2 @sagE.eq_1 @Msg.enc.eq_1 ?_
  clear Sc F2 F
  obtain ⟨M, Sk, back⟩ := S.wkStock
  refine cI (Move_ok x.value 6 Sk (by omega)) ?_
  clear S Sk
  rintro _ h ⟨rfl, Sk⟩
  have S := back _ _ Sk
  clear back Sk
  by_cases he : moveE w1.s.K x.value 6 = 0
  ·rw [if_pos he] at hK
   refine Wb he ?_
   refine cI (close_ok S (W1.mv _ _) (by omega) hA hi) ?_
   clear S
   rintro _ h ⟨rfl, S⟩
   refine Wa ?_
   exact hK _ _ ⟨rfl, S.d1⟩
  ·rw [if_neg he] at hK
   refine Wa ?_
   exact hK _ _ ⟨he, rfl, S.tl.tl⟩
end
end
section
set_option maxHeartbeats 8000000
theorem To_ok (p : Pol) (g : Int) (hp : p.right) (hg : isR g) (h : Heap) : CallsH Tryz.prog 90 [.agg p.enc.toArray, .int .i64 g] h fun v h' => v = .tuple #[.int .i64 (p.gto g), .int .i64 0] ∧ Fr h h' [] := by
 have S := St.nil h
 refine EN i90.eq_1 fun K hK => Wa ?_
 (revert S; (try clear F); refine AL fun b h S F => ?_)
 refine Wc F @Pol.enc.eq_1 ?_
 refine cI (rright_ok p _) ?_
 rintro _ h ⟨rfl, f1⟩
 have S := S.frame f1
 rw [dT hp]
 refine Wa ?_
 refine cI (ris_ok g _) ?_
 rintro _ _ ⟨rfl, rfl⟩
 rw [dT hg]
 ((try clear F); have F := S.fx)
 rcases isR4 hg with rfl | rfl | rfl | rfl <;>
 ·refine Wc F @Pol.enc.eq_1 ?_
  exact hK _ _ ⟨by simp [Pol.gto], S.fr⟩
theorem Graded_ok {h0 : Heap} (x : RetV) (hb : Arr zEnc 1 h0 x.B x.r.gs) (l2 : x.r.gs.length < 1000000) (hl : x.r.gs.length = x.r.us.length) : CallsH Tryz.prog 92 [.agg x.enc.toArray] h0 fun v h' => v = .bool (!dcd ((-1 : Int) ∈ x.r.gs)) ∧ Fr h0 h' [] := by
 have S := St.nil h0
 have hl' : (x.r.gs.length : Int) = x.r.us.length := by omega
 refine EN i92.eq_1 fun K hK => Wa ?_
 (revert S; (try clear F); refine AL fun b h S F => ?_)
 refine Wc F @RetV.enc.eq_1 ?_
 refine cI (ContainsI_ok (-1) (hb.fr S.fr (by simp)) l2) ?_
 rintro _ _ ⟨rfl, rfl⟩
 refine Wa ?_
 exact hK _ _ ⟨rfl, S.fr⟩
theorem Has_ok {h0 : Heap} (x : RetV) (ha : Arr zEnc 1 h0 x.A x.r.us) (l1 : x.r.us.length < 1000000) (v : Int) : CallsH Tryz.prog 130 [.agg x.enc.toArray, .int .i64 v] h0 fun r h' => r = .int .i64 (ixI x.r.us v) ∧ Fr h0 h' [] := by
 have S := St.nil h0
 refine EN i130.eq_1 fun K hK => Wa ?_
 (revert S; (try clear F); refine AL fun b h S F => ?_)
 refine Wc F @RetV.enc.eq_1 ?_
 refine cI (Index_ok v (ha.fr S.fr (by simp)) l1) ?_
 rintro _ _ ⟨rfl, rfl⟩
 refine Wa ?_
 exact hK _ _ ⟨rfl, S.fr⟩
noncomputable def resG (h0 : Heap) (l : List HP) (r : Ret) (grade : Int) (x : Except Int Nat) (v : Value) (h' : Heap) : Prop := match x with
 | .error e => e ≠ 0 ∧ v = .tuple #[.agg zR.enc.toArray, .int .i64 e] ∧ St h0 h' l
 | .ok j => j < r.us.length ∧ ∃ y : RetV, y.r = { r with gs := r.gs.set j grade } ∧ v = .tuple #[.agg y.enc.toArray, .int .i64 0] ∧ St h0 h' (retRow y :: l)
section
variable {h0 h : Heap} {l : List HP}
theorem RGrade_ok (x : RetV) (unit grade : Int) (ha : ∀ h', St h0 h' l → Arr zEnc 1 h' x.A x.r.us) (hb : ∀ h', St h0 h' l → Arr zEnc 1 h' x.B x.r.gs) (l1 : x.r.us.length < 1000000) (l2 : x.r.gs.length < 1000000) (hgl : x.r.gs.length = x.r.us.length) (S : St h0 h l) :
  CallsH Tryz.prog 88 [.agg x.enc.toArray, .int .i64 unit, .int .i64 grade] h fun v h' => resG h0 l x.r grade (gradeE x.r unit grade) v h' := by
 have hd : gradeE x.r unit grade = if dcd (x.r.right ∧ btw grade 0 4) = false then .error 1 else match x.r.us.findIdx? fun u => decide (u = unit) with
  | none => .error 7
  | some j => if x.r.gs.getD j 0 ≠ -1 then .error 8 else .ok j := rfl
 refine EN i88.eq_1 fun K hK => Wa ?_
 (revert S; (try clear F); refine AL fun b h S F => ?_)
 refine Wa ?_
 (revert S; (try clear F); refine AL fun g h S F => ?_)
 refine Wb F ?_
 refine cI (Has_ok x (ha _ S.tl.tl) l1 unit) ?_
 rintro _ h ⟨rfl, f1⟩
 have S := S.frame f1
 clear f1
 have S : St h0 h (cellA g zR.enc 59 :: cellA b x.enc 59 :: l) := S
 ((try clear F); have F := S.fx)
 refine Wc F @RetV.enc.eq_1 ?_
 refine cI (RmaRight_ok x (ha _ S.tl.tl) (hb _ S.tl.tl) l1 l2) ?_
 rintro _ h ⟨rfl, f1⟩
 have S := S.frame f1
 clear f1 F
 by_cases hr : x.r.right
 case neg =>
  rw [if_pos (dF fun h => hr h.1)] at hd
  rw [hd] at hK
  rw [dF hr]
  refine Wa ?_
  refine tS S rfl rfl (l_a rfl) ?_
  clear S
  intro h S
  have S : St h0 h (cellA g zR.enc 59 :: cellA b x.enc 59 :: l) := S
  ((try clear F); have F := S.fx)
  refine We F @zR.eq_1 @Ret.zero.eq_1 @RetV.enc.eq_1 ?_
  exact hK _ _ ⟨by decide, rfl, S.tl.tl⟩
 rw [dT hr]
 refine Wa ?_
 refine cI (between_ok _ _ _ _) ?_
 rintro _ _ ⟨rfl, rfl⟩
 by_cases hg : btw grade 0 4
 case neg =>
  rw [if_pos (dF fun h => hg h.2)] at hd
  rw [hd] at hK
  rw [dF hg]
  refine Wa ?_
  refine tS S rfl rfl (l_a rfl) ?_
  clear S
  intro h S
  have S : St h0 h (cellA g zR.enc 59 :: cellA b x.enc 59 :: l) := S
  ((try clear F); have F := S.fx)
  refine We F @zR.eq_1 @Ret.zero.eq_1 @RetV.enc.eq_1 ?_
  exact hK _ _ ⟨by decide, rfl, S.tl.tl⟩
 rw [dT hg]
 rw [if_neg (by rw [dT ⟨hr, hg⟩]; decide)] at hd
 cases hix : x.r.us.findIdx? fun u => decide (u = unit) with
 | none =>
  rw [hix] at hd
  simp only at hd
  rw [hd] at hK
  have hi1 : ixI x.r.us unit = -1 := by rw [ixI, hix]
  refine Wb hi1 ?_
  refine tS S rfl rfl (l_a rfl) ?_
  clear S
  intro h S
  have S : St h0 h (cellA g zR.enc 59 :: cellA b x.enc 59 :: l) := S
  ((try clear F); have F := S.fx)
  refine We F @zR.eq_1 @Ret.zero.eq_1 @RetV.enc.eq_1 ?_
  exact hK _ _ ⟨by decide, rfl, S.tl.tl⟩
 | some j =>
  rw [hix] at hd
  simp only at hd
  have hi1 : ixI x.r.us unit = (j : Int) := by rw [ixI, hix]
  have hjl : j < x.r.us.length := by
   rw [List.findIdx?_eq_some_iff_getElem] at hix
   exact hix.1
  obtain ⟨b1, o1, hB, q1⟩ := (hb _ S.tl.tl).at (i := j) (by omega)
  have q1 := rP0 q1 (by omega)
  simp only [zEnc, l_o, Nat.mul_one] at q1
  rw [← getD_at] at q1
  ((try clear F); have F := S.fx)
  by_cases hgj : x.r.gs.getD j 0 = -1
  case neg =>
   rw [if_pos hgj] at hd
   rw [hd] at hK
   refine Wg hi1 F @RetV.enc.eq_1 hB q1 @Nat.mul_one ?_
   refine tS S rfl rfl (l_a rfl) ?_
   clear S F q1
   intro h S
   have S : St h0 h (cellA g zR.enc 59 :: cellA b x.enc 59 :: l) := S
   ((try clear F); have F := S.fx)
   refine We F @zR.eq_1 @Ret.zero.eq_1 @RetV.enc.eq_1 ?_
   exact hK _ _ ⟨by decide, rfl, S.tl.tl⟩
  rw [if_neg (fun h => h hgj)] at hd
  rw [hd] at hK
  refine Wh hi1 F @RetV.enc.eq_1 hB q1 @Nat.mul_one hgj ?_
  have hcl := RClone_ok x (fun h' S => ha h' S.tl.tl) (fun h' S => hb h' S.tl.tl) l1 l2 S
  rw [RetV.enc, hB] at hcl
  refine cI hcl ?_
  clear S F q1 hcl
  rintro _ h ⟨y, rfl, hy, S⟩
  refine Wa ?_
  refine tS S.p2 rfl rfl (l_a rfl) ?_
  clear S
  intro h S
  rw [RetV.enc, RetV.enc] at S
  replace S := S.nm
  have S : St h0 h (cellA b y.enc 59 :: retRow y :: cellA g zR.enc 59 :: l) := S
  have Sg := St.star.1 S.p1
  have hgl2 : y.r.gs.length = x.r.us.length := by rw [hy, hgl]
  obtain ⟨bg, hbg⟩ := Sg.p1.ownAt (by omega)
  ((try clear F); have F := S.fx)
  refine We F @RetV.enc.eq_1 hbg hi1 ?_
  have Sg := Sg.p1
  rw [hbg] at Sg
  refine st_setOwn zEl (i := j) (x := grade) Sg (by omega) (by rw [Nat.mul_one]; try rfl) rfl rfl rfl ?_
  clear S Sg F
  intro h S
  obtain ⟨z, hz⟩ : ∃ z : RetV, z = { y with r := { x.r with gs := x.r.gs.set j grade } } := ⟨_, rfl⟩
  have hrow : retRow z = starA (ownA zEnc 1 3 (.slice y.A y.r.us.length y.c) y.r.us) (ownA zEnc 1 3 (.slice (some ⟨bg, 0, none⟩) y.r.gs.length y.d) (y.r.gs.set j grade)) := by
   rw [hz, retRow]
   simp only [l_ak, hbg, hy]
  have S := St.star.2 S.p1
  rw [← hrow] at S
  have henc : z.enc = y.enc := by rw [hz, RetV.enc, RetV.enc]; simp only [l_ak, hy]
  have S : St h0 h (cellA b z.enc 59 :: retRow z :: cellA g zR.enc 59 :: l) := by rw [henc]; exact S.p1
  clear hrow henc
  ((try clear F); have F := S.fx)
  refine Wb F ?_
  refine tS S.p2 rfl rfl (l_a rfl) ?_
  clear S F
  intro h S
  have S : St h0 h (cellA g z.enc 59 :: cellA b z.enc 59 :: retRow z :: l) := S
  ((try clear F); have F := S.fx)
  refine Wb F ?_
  refine hK _ _ ⟨hjl, z, by rw [hz], rfl, S.tl.tl⟩
end
section
variable {h0 h : Heap} {l : List HP} {L : Loc} {D : Cfg} {w : Wk} {U : List Unt} {m b i : Nat} {Au : Option Addr} {cu : Nat}
theorem policy_okS (n : Nat) (hn : n < U.length) (hc : ∀ h', St h0 h' l → D.rd h') (hu : ∀ h', St h0 h' l → Arr Unt.enc 4 h' Au U) (S : St h0 h (wkA L D (.slice Au U.length cu) w :: l)) :
  CallsH Tryz.prog 78 [.pointer (some ⟨L.p, 0, none⟩), .int .i64 (n : Int)] h fun v h' => v = .agg (polOf D.ps (untAt U n).cat).enc.toArray ∧ St h0 h' (wkA L D (.slice Au U.length cu) w :: l) := by
 have hat : untAt U (n : Int) = U[n] := by rw [untAt, l_ap, l_s, l_r hn]; rfl
 rw [hat]
 obtain ⟨b4, o4, rfl, _⟩ := (hu _ S.tl).at hn
 have hqU : ∀ {h' : Heap}, St h0 h' l → rd1 h' (.pointer (some ⟨b4, o4 + n * 4 + 2, none⟩)) = some (.int .i64 U[n].cat) := fun S => by
  obtain ⟨b5, o5, hA5, q5⟩ := (hu _ S).at hn
  cases hA5
  have p2 := rP q5 2 (by omega)
  simpa only [Unt.enc, l_o, l_p] using p2
 obtain ⟨P, hP⟩ : ∃ P, P = polOf D.ps U[n].cat := ⟨_, rfl⟩
 rw [← hP]
 refine EN i78.eq_1 fun K hK => Wa ?_
 (revert S; (try clear F); refine AL fun g h S F => ?_)
 have S : St h0 h (wkA L D (.slice (some ⟨b4, o4, none⟩) U.length cu) w :: cellA g Pol.zero.enc 105 :: l) := S.p1
 have r2 : ∀ K t, readT (fun h' => St h0 h' (wkA L D (.slice (some ⟨b4, o4, none⟩) U.length cu) w :: cellA g Pol.zero.enc 105 :: l)) (fun h' => rd1 h' (.pointer (some ⟨L.p, 2, none⟩))) K t = K (.slice D.A3 D.ps.length D.c3) := fun K t => rI (fun h' S => by
  obtain ⟨sd, M, Sc, _⟩ := S.wkCell
  exact st_rd1 (off := 2) Sc) h S
 have r3 : ∀ K t, readT (fun h' => St h0 h' (wkA L D (.slice (some ⟨b4, o4, none⟩) U.length cu) w :: cellA g Pol.zero.enc 105 :: l)) (fun h' => rd1 h' (.pointer (some ⟨L.p, 3, none⟩))) K t = K (.slice (some ⟨b4, o4, none⟩) U.length cu) := fun K t => rI (fun h' S => by
  obtain ⟨sd, M, Sc, _⟩ := S.wkCell
  exact st_rd1 (off := 3) Sc) h S
 have rU : ∀ K t, readT (fun h' => St h0 h' (wkA L D (.slice (some ⟨b4, o4, none⟩) U.length cu) w :: cellA g Pol.zero.enc 105 :: l)) (fun h' => rd1 h' (.pointer (some ⟨b4, o4 + n * 4 + 2, none⟩))) K t = K (.int .i64 U[n].cat) := fun K t => rI (fun h' S => hqU S.tl.tl) h S
 refine Wa ?_
 refine cS S (fun ρ' h' => ρ' 4 = .pointer (some ⟨g, 0, none⟩) ∧ ∃ q, ρ' 5 = .pointer (some ⟨q, 0, none⟩) ∧ St h0 h' (cellA q P.enc 105 :: wkA L D (.slice (some ⟨b4, o4, none⟩) U.length cu) w :: cellA g Pol.zero.enc 105 :: l)) ?_ ?_
 ·intro J hJ
  refine Wd r2 r3 rU ?_
  refine ⟨?_, ?_⟩
  ·refine cI (OfP_ok S (fun h' S => (hc _ S.tl.tl).ps) U[n].cat) ?_
   clear S F r2 r3 rU
   rintro _ h ⟨S, e, rfl⟩
   rw [← hP]
   refine Wa ?_
   (revert S; (try clear F); refine AL fun q h S F => ?_)
   refine ⟨S.tl, ?_⟩
   refine Wa ?_
   (revert S; (try clear F); refine ST fun h S F => ?_)
   refine hJ _ _ ?_
   refine Wa ?_
   exact ⟨q, rfl, S⟩
  ·(revert S; (try clear F); refine AL fun q h S F => ?_)
   refine ⟨S.tl, ?_⟩
   refine Wa ?_
   refine cI (OfP_ok S (fun h' S => (hc _ S.tl.tl.tl).ps) U[n].cat) ?_
   clear S F r2 r3 rU
   rintro _ h ⟨S, e, rfl⟩
   rw [← hP]
   refine Wa ?_
   (revert S; (try clear F); refine ST fun h S F => ?_)
   refine hJ _ _ ?_
   refine Wa ?_
   exact ⟨q, rfl, S⟩
 clear S F r2 r3 rU
 rintro ρ' h ⟨e4, q, e5, S⟩
 ((try clear F); have F := S.fx)
 refine Wd e4 e5 F ?_
 refine tS S.p2 rfl rfl (l_a rfl) ?_
 clear S F
 intro h S
 have S : St h0 h (cellA g P.enc 105 :: cellA q P.enc 105 :: wkA L D (.slice (some ⟨b4, o4, none⟩) U.length cu) w :: l) := S
 ((try clear F); have F := S.fx)
 refine Wc e4 F ?_
 exact hK _ _ ⟨rfl, S.tl.tl⟩
end
end
end Go.Proofs.YtcgbhcgfdcfmaaaGreat.MX
