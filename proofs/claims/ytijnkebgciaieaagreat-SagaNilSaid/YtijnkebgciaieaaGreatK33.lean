import Derived.Test.YtijnkebgciaieaaGreatK32
namespace Go.Proofs.YtijnkebgciaieaaGreat.MX
open Go Go.Proofs
set_option linter.unusedSimpArgs false
set_option linter.unusedVariables false
section
set_option maxHeartbeats 8000000
theorem flat_setR {α : Type} (f : α → List Value) {xs : List α} {i : Nat} (hi : i < xs.length) {y : α} (h : f y = f xs[i]) : (xs.set i y).flatMap f = xs.flatMap f := by
 rw [List.flatMap_def, List.flatMap_def, List.map_set]
 congr 1
 have : f y = (xs.map f)[i]'(by rw [l_z]; exact hi) := by rw [l_ae]; exact h
 rw [this, List.set_getElem_self]
theorem perm_rows (c k t o r s : HP) (rows l : List HP) : (c :: k :: t :: o :: r :: s :: (rows ++ l)).Perm (r :: (rows ++ (c :: k :: t :: o :: s :: l))) := by
 refine (perm_pick [c, k, t, o] r (s :: (rows ++ l))).trans (List.Perm.cons _ ?_)
 exact List.perm_append_comm_assoc [c, k, t, o, s] rows l
section
variable {h0 h : Heap} {l : List HP} {L : Loc} {D : Cfg} {u : Value} {w : Wk} {U : List Unt} {m b i : Nat}
theorem lose_ok {Au : Option Addr} {cu : Nat} (hc : ∀ h', St h0 h' l → D.rd h') (hu : ∀ h', St h0 h' l → Arr Unt.enc 4 h' Au U) (hD : Stc D U) (S : St h0 h (wkA L D (.slice Au U.length cu) w :: l)) (W : w.wf U m) (hm : m < 400000) (hA : L.A = some ⟨b, 0, none⟩) (hi : i < w.s.R.length) :
  CallsH Tryz.prog 119 [.pointer (some ⟨L.p, 0, none⟩), .pointer (some ⟨b, i * 14, none⟩)] h fun v h' => resE h0 L D (.slice Au U.length cu) l (loseP D.ss U w i) v h' := by
 have hul := hD.ul
 obtain ⟨hlen, hglen⟩ := W.len _ (R_mem hi)
 have hinU := (W.rr _ (R_mem hi)).2
 have hpos : ∀ v ∈ (w.R i).us, 0 ≤ v := fun v hv => by
  obtain ⟨k, hk, rfl⟩ := l_af hv
  have := (((W.rr _ (R_mem hi)).1.2.2 k hk).1).1
  rwa [getD_at hk] at this
 have hd : loseP D.ss U w i = settleP D.ss (loseTo U w i (w.R i).us.length) i 5 := rfl
 rw [hd]
 obtain ⟨sd, vs, hv, S⟩ := St.wk.1 S
 have hil : i < vs.length := by rw [← hv, l_z] at hi; exact hi
 have e : vs[i].r = w.R i := by
  unfold Wk.R
  rw [← hv, l_s, l_ag, l_r hil]
  rfl
 have q8 : rd1 h (.pointer (some ⟨b, i * 14 + 8, none⟩)) = some (.slice vs[i].A (w.R i).us.length vs[i].c) := by
  have S4 := S.p4
  rw [hA] at S4
  have := own_part RetV.enc_len S4 (i := i) (j := 8) hil (by omega)
  simpa only [RetV.enc, l_o, l_p, e] using this
 obtain ⟨A0, hA0⟩ : ∃ A0, A0 = vs[i].A := ⟨_, rfl⟩
 obtain ⟨c0, hc0⟩ : ∃ c0, c0 = vs[i].c := ⟨_, rfl⟩
 rw [← hA0, ← hc0] at q8
 (refine eK c_saga_Saga_lose (l_a rfl) fun K hK => ?_; (try simp (disch := first|omega|assumption|exact l_a rfl) only [go_sem, ↓wBk, simprocAttr, ir_saga_Saga_lose]))
 (try simp (disch := first|omega|assumption|exact l_a rfl) only [go_sem, ↓wBk, simprocAttr, q8])
 refine lI (fun ρ h' => ρ 0 = .pointer (some ⟨L.p, 0, none⟩) ∧ ρ 1 = .pointer (some ⟨b, i * 14, none⟩) ∧ ρ 10 = .slice A0 (w.R i).us.length c0 ∧ ρ 11 = .int .i64 (w.R i).us.length ∧ ∃ (j : Nat) (ys : List RetV) (hy : i < ys.length), ρ 12 = .int .i64 j ∧ j ≤ (w.R i).us.length ∧ ys.map RetV.r = (loseTo U w i j).s.R ∧ ys[i].A = A0 ∧ ys[i].c = c0 ∧
  St h0 h' (cellA L.p (sagE D (.slice Au U.length cu) L.k L.t L.o (.slice L.A w.s.R.length L.c) sd w.s) 64 :: stockA L.k (loseTo U w i j).s.K :: timA L.t w.s.T :: obxA L.o w.s.key w.s.O ::
  ownA RetV.enc 14 66 (.slice L.A w.s.R.length L.c) ys :: ownA Msg.enc 6 110 sd w.sd :: (ys.map retRow ++ l))) (fun ρ _ => (w.R i).us.length - (iv (ρ 12)).toNat) ?_ ?_
 ·(try simp (disch := first|omega|assumption|exact l_a rfl) only [go_sem, ↓wBk, simprocAttr])
  exact ⟨0, vs, hil, rfl, by omega, hv, hA0.symm, hc0.symm, S⟩
 clear S q8
 rintro ρ h J hJ ⟨e0, e1, e10, e11, j, ys, hy, e12, hj, hyv, hyA, hyc, S⟩
 obtain ⟨Wj, lj, uj⟩ := lose_wf hi W j
 have hij : i < (loseTo U w i j).s.R.length := by omega
 have ey : ys[i].r = (loseTo U w i j).R i := by
  unfold Wk.R
  rw [← hyv, l_s, l_ag, l_r hy]
  rfl
 (try simp (disch := first|omega|assumption|exact l_a rfl) only [go_sem, ↓wBk, simprocAttr, e11, e12])
 refine cD (fun hlt => ?_) (fun hlt => ?_)
 ·have hjl : j < (w.R i).us.length := by omega
  have harr := (retRow_in S (x := ys[i]) (by simp only [l_e, l_y]; exact .inr (.inr (.inr (.inr (.inr (.inr (.inl (l_ai (l_v hy))))))))))
  rw [ey, uj, hyA] at harr
  obtain ⟨b1, o1, hA1, q1⟩ := harr.1.at hjl
  have q1 := rP0 q1 (by omega)
  simp only [zEnc, l_o, Nat.mul_one] at q1
  rw [← getD_at] at q1
  obtain ⟨n, hn⟩ := l_u (hpos _ (l_v hjl))
  rw [← getD_at] at hn
  have hnU : n < U.length := by
   have := hinU _ (l_v hjl)
   rw [← getD_at, hn] at this
   omega
  rw [hn] at q1
  have hkl := Wj.kl
  obtain ⟨w1, hw1⟩ : ∃ w1, w1 = loseTo U w i j := ⟨_, rfl⟩
  rw [← hw1] at S Wj lj uj hij ey hyv hkl
  have hw2 : loseTo U w i (j + 1) = (w1.mv n 6).put i { w1.R i with gs := (w1.R i).gs.set j 4, worth := w64 ((w1.R i).worth + (untAt U n).share) } := by
   rw [hw1]
   show Wk.put _ _ _ = _
   rw [show (loseTo U w i j).R i = w1.R i by rw [hw1], uj, hn]
  have hgl : (w1.R i).gs.length = (w.R i).us.length := by rw [(Wj.len _ (R_mem hij)).2, uj]
  ((try clear F); have F := S.all; (try simp only [aC, aN, yC, and_true] at F))
  (try simp (disch := first|omega|assumption|exact l_a rfl) only [go_sem, ↓wBk, simprocAttr, e0, e10, e12, F, sagE, hA1, q1, Nat.mul_one])
  refine cI (Move_ok (n : Int) 6 S.p1 (by omega)) ?_
  clear F q1 harr S
  rintro _ h ⟨rfl, S⟩
  have S : St h0 h (cellA L.p (sagE D (.slice Au U.length cu) L.k L.t L.o (.slice L.A w.s.R.length L.c) sd w.s) 64 :: stockA L.k (moveK w1.s.K n 6) :: timA L.t w.s.T :: obxA L.o w.s.key w.s.O ::
   ownA RetV.enc 14 66 (.slice L.A w.s.R.length L.c) ys :: ownA Msg.enc 6 110 sd w.sd :: (ys.map retRow ++ l)) := S.p1
  have rdr : ∀ {h' : Heap} {zs : List RetV} {M : List HP} (k : Nat) (_ : k < 14) (hz : i < zs.length), St h0 h' (ownA RetV.enc 14 66 (.slice L.A w.s.R.length L.c) zs :: M) → rd1 h' (.pointer (some ⟨b, i * 14 + k, none⟩)) = zs[i].enc[k]? := fun {h' zs M} k hk hz S => by
   rw [hA] at S
   exact own_part RetV.enc_len S hz hk
  have q9 := rdr 9 (by omega) hy S.p4
  simp only [RetV.enc, l_o, l_p, ey] at q9
  have S := S.perm (perm_rows _ _ _ _ _ _ _ _)
  have S := row_pick hy S
  have S := St.star.1 S
  have hgne : 0 < ys[i].r.gs.length := by rw [ey]; omega
  obtain ⟨bg, hbg⟩ := S.p1.ownAt hgne
  rw [hbg] at q9
  have Sg := S.p1
  rw [hbg] at Sg
  clear S
  (try simp (disch := first|omega|assumption|exact l_a rfl) only [go_sem, ↓wBk, simprocAttr, e1, q9])
  refine st_setOwn zEl (i := j) (x := 4) Sg (by rw [ey]; omega) (by rw [Nat.mul_one]; try rfl) rfl rfl rfl ?_
  clear Sg q9
  intro h S
  rw [ey] at S
  obtain ⟨y, hyd⟩ : ∃ y : RetV, y = { ys[i] with r := { w1.R i with gs := (w1.R i).gs.set j 4 } } := ⟨_, rfl⟩
  have hrow : retRow y = starA (ownA zEnc 1 3 (.slice ys[i].A (w1.R i).us.length ys[i].c) (w1.R i).us) (ownA zEnc 1 3 (.slice (some ⟨bg, 0, none⟩) (w1.R i).gs.length ys[i].d) ((w1.R i).gs.set j 4)) := by
   rw [hyd, retRow]
   simp only [l_ak, hbg]
  have S3 := St.star.2 S.p1
  rw [← hrow] at S3
  have S := row_put (F := retRow) (z := y) hy S3
  have henc : y.enc = ys[i].enc := by rw [hyd, RetV.enc, RetV.enc]; simp only [l_ak, ey]
  have S := S.ownTo (ys := ys.set i y) (enc' := RetV.enc) (by rw [flat_setR _ hy henc]) (by rw [l_ak])
  have hys : i < (ys.set i y).length := by rw [l_ak]; exact hy
  have hyi : (ys.set i y)[i] = y := List.getElem_set_self ..
  have q10 : rd1 h (.pointer (some ⟨b, i * 14 + 10, none⟩)) = some (.int .i64 (w1.R i).worth) := by
   rw [rdr 10 (by omega) hys S, hyi, hyd]
   rfl
  obtain ⟨b4, o4, hA4, q4⟩ := (hu _ (S.tl.dropL.tl.tl.tl.tl.tl)).at hnU
  have q43 := rP q4 3 (by omega)
  simp only [Unt.enc, l_o, l_p] at q43
  obtain ⟨M, Sc⟩ := st_mem S (X := cellA L.p (sagE D (.slice Au U.length cu) L.k L.t L.o (.slice L.A w.s.R.length L.c) sd w.s) 64) (by simp)
  have F := Sc.all
  simp only [aC, aN, yC, and_true] at F
  have hat : untAt U (n : Int) = U[n] := by rw [untAt, l_ap, l_s, l_r hnU]; rfl
  (try simp (disch := first|omega|assumption|exact l_a rfl) only [go_sem, ↓wBk, simprocAttr])
  refine dE ?_
  (try simp (disch := first|omega|assumption|exact l_a rfl) only [go_sem, ↓wBk, simprocAttr, e0, e1, q10, F, sagE, hA4, q43])
  clear F Sc q10 q4 q43
  obtain ⟨y2, hy2⟩ : ∃ y2 : RetV, y2 = { ys[i] with r := { w1.R i with gs := (w1.R i).gs.set j 4, worth := w64 ((w1.R i).worth + (untAt U n).share) } } := ⟨_, rfl⟩
  have hA' := hA
  rw [hA] at S
  refine st_setPart RetV.enc_len (i := i) (j := 10) (x := y2) S hys rfl (by simp) rfl rfl (by rw [hyi, hy2, hyd, ← hat]; rfl) ?_
  clear S
  intro h S
  rw [← hA, List.set_set] at S
  have hr2 : retRow y2 = retRow y := by rw [hy2, hyd, retRow, retRow]
  have hmap : (ys.set i y).map retRow = (ys.set i y2).map retRow := by rw [List.map_set, List.map_set, hr2]
  rw [hmap] at S
  have S := S.perm (perm_rows _ _ _ _ _ _ _ _).symm
  have hyi2 : (ys.set i y2)[i]'(by rw [l_ak]; exact hy) = y2 := List.getElem_set_self ..
  (try simp (disch := first|omega|assumption|exact l_a rfl) only [go_sem, ↓wBk, simprocAttr, e12])
  refine hJ _ _ ?_ ?_
  ·(try simp (disch := first|omega|assumption|exact l_a rfl) only [go_sem, ↓wBk, simprocAttr, e0, e1, e10, e11, hA1])
   refine ⟨j + 1, ys.set i y2, by rw [l_ak]; exact hy, rfl, by omega, ?_, by rw [hyi2, hy2]; exact hyA.trans hA1, by rw [hyi2, hy2]; exact hyc, ?_⟩
   ·rw [hw2, List.map_set, hyv, hy2]
    rfl
   ·rw [hw2]
    exact S
  ·(try simp (disch := first|omega|assumption|exact l_a rfl) only [go_sem, ↓wBk, simprocAttr, e12])
   omega
 obtain rfl : j = (w.R i).us.length := by omega
 have hfin : loseTo U w i (w.R i).us.length = ⟨{ w.s with K := (loseTo U w i (w.R i).us.length).s.K, R := (loseTo U w i (w.R i).us.length).s.R }, w.sd⟩ := by
  have : ∀ j, loseTo U w i j = ⟨{ w.s with K := (loseTo U w i j).s.K, R := (loseTo U w i j).s.R }, w.sd⟩ := by
   intro j
   induction j with
   | zero => rfl
   | succ j ih =>
    show Wk.put _ _ _ = _
    rw [ih]
    rfl
  exact this _
 have S : St h0 h (wkA L D (.slice Au U.length cu) (loseTo U w i (w.R i).us.length) :: l) := by
  refine St.wk.2 ⟨sd, ys, hyv, ?_⟩
  rw [lj]
  rw [hfin]
  exact S
 clear hJ hfin
 (try simp (disch := first|omega|assumption|exact l_a rfl) only [go_sem, ↓wBk, simprocAttr, e0, e1])
 refine cI (settle_ok 5 hc hD S Wj hm hA hij) ?_
 clear S
 intro v h hv
 (try simp (disch := first|omega|assumption|exact l_a rfl) only [go_sem, ↓wBk, simprocAttr])
 exact hK _ _ hv
end
end
section
set_option maxHeartbeats 8000000
section
variable {h0 h : Heap} {l : List HP} {o : Nat} {n : Int} {O : List Msg}
theorem AgainO_ok (now : Int) (S : St h0 h (obxA o n O :: l)) (hl : O.length < 1000000) (hnow : -4398046511104 ≤ now ∧ now ≤ 4398046511104) (ht : ∀ m ∈ O, 0 ≤ m.tries ∧ m.tries < 1000000) :
  CallsH Tryz.prog 82 [.pointer (some ⟨o, 0, none⟩), .int .i64 now] h fun v h' => ∃ s1 s2, v = .tuple #[s1, s2] ∧
   St h0 h' (ownA Msg.enc 6 110 s1 (saidOf now O) :: ownA Msg.enc 6 110 s2 (givenOf now O) :: obxA o n (leftOf now O) :: l) := by
 rw [obxA, St.ex] at S
 obtain ⟨s, S⟩ := S
 obtain ⟨B, hp, hge, hk⟩ := S.hd
 obtain ⟨C, C', rfl, ⟨rfl, hc⟩, ⟨rfl, hd⟩, hdis⟩ := hp
 have i : IsOb h0.size h o s n O := ⟨hc, hge o (by simp), hd.rebase (fun b hm => hge b (by simp [hm])), hdis o (by simp)⟩
 have hlt := i.lt
 refine (Again_tri now i hl hnow ht).mono ?_
 rintro v h' ⟨s1, s2, s3, rfl, i', o1, o2, hf, h3, ab, ac, bc⟩
 have lt1 : ∀ b ∈ blkOf s1, h.size ≤ b := fun b hb => (o1.lt b hb).2
 have lt2 : ∀ b ∈ blkOf s2, h.size ≤ b := fun b hb => (o2.lt b hb).2
 refine ⟨s1, s2, rfl, ?_⟩
 refine (St.stars (ps := [ownA Msg.enc 6 110 s1 (saidOf now O), ownA Msg.enc 6 110 s2 (givenOf now O), obxA o n (leftOf now O)]) (l := l)).1
  (hk h' (starsA [ownA Msg.enc 6 110 s1 (saidOf now O), ownA Msg.enc 6 110 s2 (givenOf now O), obxA o n (leftOf now O)]) (blkOf s1 ++ (blkOf s2 ++ (o :: blkOf s3)))
   ⟨hf.size, fun b hb hn => hf.same b hb fun h => hn (by simp at h; simp [h])⟩ ?_ ?_)
 ·refine ⟨blkOf s1, blkOf s2 ++ (o :: blkOf s3), rfl, ⟨rfl, o1.rebase fun _ _ => Nat.zero_le _⟩, ⟨blkOf s2, o :: blkOf s3, rfl, ⟨rfl, o2.rebase fun _ _ => Nat.zero_le _⟩, ⟨s3, [o], blkOf s3, rfl, ⟨rfl, i'.blk⟩, ⟨rfl, i'.own.rebase fun _ _ => Nat.zero_le _⟩, by simpa using i'.apart⟩, ?_⟩, ?_⟩
  ·intro b hb hm
   rcases List.mem_cons.1 hm with rfl | hm
   ·have := lt2 _ hb; omega
   ·exact bc b hb hm
  ·intro b hb hm
   rcases List.mem_append.1 hm with hm | hm
   ·exact ab b hb hm
   ·rcases List.mem_cons.1 hm with rfl | hm
    ·have := lt1 _ hb; omega
    ·exact ac b hb hm
 ·intro b hm
  rcases List.mem_append.1 hm with hm | hm
  ·exact .inr (lt1 b hm)
  ·rcases List.mem_append.1 hm with hm | hm
   ·exact .inr (lt2 b hm)
   ·rcases List.mem_cons.1 hm with rfl | hm
    ·exact .inl (by simp)
    ·exact .inr (h3 b hm)
end
section
variable {h0 h : Heap} {l : List HP} {L : Loc} {D : Cfg} {u : Value} {w : Wk} {U : List Unt} {m b i : Nat} {Au : Option Addr} {cu : Nat}
theorem due_ok (num : Int) (hc : ∀ h', St h0 h' l → D.rd h') (hu : ∀ h', St h0 h' l → Arr Unt.enc 4 h' Au U) (hD : Stc D U) (S : St h0 h (wkA L D (.slice Au U.length cu) w :: l)) (W : w.wf U m) (hm : m < 400000) :
  CallsH Tryz.prog 81 [.pointer (some ⟨L.p, 0, none⟩), .int .i64 num] h fun v h' => resE h0 L D (.slice Au U.length cu) l (dueP D.ss U w num) v h' := by
 (refine eK c_saga_Saga_due (l_a rfl) fun K hK => ?_; (try simp (disch := first|omega|assumption|exact l_a rfl) only [go_sem, ↓wBk, simprocAttr, ir_saga_Saga_due]))
 refine cI (of_ok num S W) ?_
 rintro _ _ ⟨rfl, ⟨hn, rfl⟩ | ⟨i, b, hnum, hni, hi, hat, hA, rfl⟩⟩
 ·have hd : dueP D.ss U w num = .error 7 := by rw [dueP, hn]
  rw [hd] at hK
  (try simp (disch := first|omega|assumption|exact l_a rfl) only [go_sem, ↓wBk, simprocAttr])
  exact hK _ _ ⟨by decide, rfl, S.tl⟩
 have hd : dueP D.ss U w num = if (w.R i).state = 3 then loseP D.ss U w i else if (w.R i).state = 1 ∨ (w.R i).state = 2 then endP w num 8 else .ok w := by rw [dueP, hat]; simp only [hni]
 rw [hd] at hK
 obtain ⟨x, hx, hrd, _, _, _⟩ := S.wkRet hA hi
 have q6 := hrd 6 (by omega)
 simp only [RetV.enc, l_o, l_p, hx] at q6
 by_cases s3 : (w.R i).state = 3
 ·rw [if_pos s3] at hK
  (try simp (disch := first|omega|assumption|exact l_a rfl) only [go_sem, ↓wBk, simprocAttr, q6])
  refine cI (lose_ok hc hu hD S W hm hA hi) ?_
  intro v h hv
  (try simp (disch := first|omega|assumption|exact l_a rfl) only [go_sem, ↓wBk, simprocAttr])
  exact hK _ _ hv
 rw [if_neg s3] at hK
 by_cases s1 : (w.R i).state = 1
 ·rw [if_pos (.inl s1)] at hK
  (try simp (disch := first|omega|assumption|exact l_a rfl) only [go_sem, ↓wBk, simprocAttr, q6])
  refine cI (end_ok num 8 S W (by omega) hD.ul) ?_
  intro v h hv
  (try simp (disch := first|omega|assumption|exact l_a rfl) only [go_sem, ↓wBk, simprocAttr])
  exact hK _ _ hv
 by_cases s2 : (w.R i).state = 2
 ·rw [if_pos (.inr s2)] at hK
  (try simp (disch := first|omega|assumption|exact l_a rfl) only [go_sem, ↓wBk, simprocAttr, q6])
  refine cI (end_ok num 8 S W (by omega) hD.ul) ?_
  intro v h hv
  (try simp (disch := first|omega|assumption|exact l_a rfl) only [go_sem, ↓wBk, simprocAttr])
  exact hK _ _ hv
 rw [if_neg (fun h => h.elim s1 s2)] at hK
 (try simp (disch := first|omega|assumption|exact l_a rfl) only [go_sem, ↓wBk, simprocAttr, q6])
 exact hK _ _ ⟨rfl, S⟩
theorem foldE_snoc {α : Type} (f : Wk → α → Except Int Wk) (x : α) : ∀ (xs : List α) (w : Wk), foldE f w (xs ++ [x]) = (foldE f w xs).bind fun w1 => f w1 x
 | [], w => by
  show (f w x).bind _ = f w x
  cases f w x <;> rfl
 | y :: xs, w => by
  show (f w y).bind _ = ((f w y).bind _).bind _
  cases h : f w y with
  | error e => rfl
  | ok w1 => exact foldE_snoc f x xs w1
theorem foldE_err {α : Type} (f : Wk → α → Except Int Wk) {e : Int} : ∀ (xs ys : List α) (w : Wk), foldE f w xs = .error e → foldE f w (xs ++ ys) = .error e
 | [], ys, w, h => by cases h
 | x :: xs, ys, w, h => by
  show (f w x).bind _ = _
  cases hf : f w x with
  | error e' =>
   have : (f w x).bind (fun w1 => foldE f w1 xs) = .error e := h
   rw [hf] at this
   exact this
  | ok w1 =>
   have : (f w x).bind (fun w1 => foldE f w1 xs) = .error e := h
   rw [hf] at this
   exact foldE_err f xs ys w1 this
theorem St.wkTimX (S : St h0 h (wkA L D u w :: l)) : ∃ M, St h0 h (timA L.t w.s.T :: M) ∧ ∀ h' T' X, St h0 h' (timA L.t T' :: (X ++ M)) → St h0 h' (wkA L D u { w with s := { w.s with T := T' } } :: (X ++ l)) := by
 obtain ⟨sd, vs, hv, S⟩ := St.wk.1 S
 refine ⟨_, S.p2, fun h' T' X S' => St.wk.2 ⟨sd, vs, hv, ?_⟩⟩
 have S2 := S'.perm (List.Perm.cons _ (List.perm_append_comm_assoc X (_ :: _ :: _ :: _ :: _ :: vs.map retRow) l))
 exact S2.p2.p2
theorem St.wkObxX (S : St h0 h (wkA L D u w :: l)) : ∃ M, St h0 h (obxA L.o w.s.key w.s.O :: M) ∧ ∀ h' key' O' X, St h0 h' (obxA L.o key' O' :: (X ++ M)) → St h0 h' (wkA L D u { w with s := { w.s with key := key', O := O' } } :: (X ++ l)) := by
 obtain ⟨sd, vs, hv, S⟩ := St.wk.1 S
 refine ⟨_, S.p3, fun h' key' O' X S' => St.wk.2 ⟨sd, vs, hv, ?_⟩⟩
 have S2 := S'.perm (List.Perm.cons _ (List.perm_append_comm_assoc X (_ :: _ :: _ :: _ :: _ :: vs.map retRow) l))
 exact S2.p3.p3.p3
theorem foldE_at {α : Type} (f : Wk → α → Except Int Wk) {xs : List α} {j : Nat} (hj : j < xs.length) {w w1 : Wk} (h : foldE f w (xs.take j) = .ok w1) : (∀ e, f w1 xs[j] = .error e → foldE f w xs = .error e) ∧ ∀ w2, f w1 xs[j] = .ok w2 → foldE f w (xs.take (j + 1)) = .ok w2 := by
 have h1 : foldE f w (xs.take (j + 1)) = f w1 xs[j] := by
  rw [l_t hj, foldE_snoc, h]
  rfl
 refine ⟨fun e he => ?_, fun w2 h2 => by rw [h1, h2]⟩
 rw [← List.take_append_drop (j + 1) xs]
 exact foldE_err f _ _ _ (by rw [h1, he])
def resT (h0 : Heap) (L : Loc) (D : Cfg) (u : Value) (l : List HP) (x : Except Int (Wk × List Msg)) (v : Value) (h' : Heap) : Prop := match x with
 | .error e => e ≠ 0 ∧ v = .tuple #[.slice none 0 0, .int .i64 e] ∧ St h0 h' l
 | .ok y => ∃ s, v = .tuple #[s, .int .i64 0] ∧ St h0 h' (wkA L D u y.1 :: ownA Msg.enc 6 110 s y.2 :: l)
end
end
section
set_option maxHeartbeats 8000000
theorem release_now (w : Wk) (i : Nat) : (releaseP w i).s.now = w.s.now := by
 unfold releaseP
 split <;> rfl
theorem end_now {w w' : Wk} {num by_ : Int} (h : endP w num by_ = .ok w') : w'.s.now = w.s.now := by
 unfold endP at h
 split at h
 ·cases h
 ·split at h
  ·cases h
  ·cases h
   exact release_now _ _
theorem post_now {w w' : Wk} {a b sum : Int} (h : wpost w a b sum = .ok w') : w'.s.now = w.s.now := by
 obtain ⟨l, _, rfl⟩ := map_ok h
 rfl
theorem pay_now {w w' : Wk} {i : Nat} {sum : Int} (h : payP w i sum = .ok w') : w'.s.now = w.s.now := by
 unfold payP at h
 split at h
 ·cases h; rfl
 ·split at h
  ·exact (post_now (show wpost _ _ _ _ = _ from h)).trans rfl
  ·cases h; rfl
theorem close_now (w : Wk) (i : Nat) : (closeP w i).s.now = w.s.now := by
 unfold closeP
 split <;> rfl
theorem settle_now {ss : List Sup} {w w' : Wk} {i : Nat} {by_ : Int} (h : settleP ss w i by_ = .ok w') : w'.s.now = w.s.now := by
 unfold settleP at h
 split at h
 ·cases h
 ·obtain ⟨w1, h1, h⟩ := bind_ok h
  obtain ⟨w2, h2, rfl⟩ := map_ok h
  rw [close_now]
  have e1 := post_now h1
  have e2 : w2.s.now = w1.s.now := by
   split at h2
   ·split at h2
    ·rw [pay_now h2, release_now]
    ·rw [pay_now h2]; rfl
   ·exact pay_now h2
  rw [e2, e1]
  rfl
theorem lose_now (U : List Unt) (w : Wk) (i : Nat) : ∀ j, (loseTo U w i j).s.now = w.s.now
 | 0 => rfl
 | j + 1 => lose_now U w i j
theorem due_now {ss : List Sup} {U : List Unt} {w w' : Wk} {num : Int} (h : dueP ss U w num = .ok w') : w'.s.now = w.s.now := by
 unfold dueP at h
 split at h
 ·cases h
 ·split at h
  ·rw [settle_now h, lose_now]
  ·split at h
   ·exact end_now h
   ·cases h; rfl
section
variable {h0 h : Heap} {l : List HP} {L : Loc} {D : Cfg} {u : Value} {w : Wk} {U : List Unt} {m b i : Nat} {Au : Option Addr} {cu : Nat}
theorem tick_ok (days : Int) (hc : ∀ h', St h0 h' l → D.rd h') (hu : ∀ h', St h0 h' l → Arr Unt.enc 4 h' Au U) (hD : Stc D U) (S : St h0 h (wkA L D (.slice Au U.length cu) w :: l)) (W : w.wf U m) (hm : m < 300000) (hd64 : I64 days) :
  CallsH Tryz.prog 43 [.pointer (some ⟨L.p, 0, none⟩), .int .i64 days] h fun v h' => resT h0 L D (.slice Au U.length cu) l (tickP D.ss U w days) v h' := by
 have hnow := W.now
 have htl := W.tl
 have hd : tickP D.ss U w days = if days < 1 ∨ 1000 < days then .error 1 else if 100000 < w.s.now + days then .error 2 else
  (foldE (dueP D.ss U) { w with s := { w.s with now := w.s.now + days, T := lateT w.s.T (w.s.now + days) } } ((dueT w.s.T (w.s.now + days)).map Tm.num)).bind fun w1 =>
   (foldE (fun w (m : Msg) => endP w m.rma 8) { w1 with s := { w1.s with O := leftOf (w.s.now + days) w1.s.O } } (givenOf (w.s.now + days) w1.s.O)).map fun w2 => (w2, saidOf (w.s.now + days) w1.s.O) := rfl
 rw [hd]
 clear hd
 by_cases d1 : days < 1
 ·rw [if_pos (.inl d1)]
  (refine eK c_saga_Saga_tick (l_a rfl) fun K hK => ?_; (try simp (disch := first|omega|assumption|exact l_a rfl) only [go_sem, ↓wBk, simprocAttr, ir_saga_Saga_tick]))
  (try simp (disch := first|omega|assumption|exact l_a rfl) only [go_sem, ↓wBk, simprocAttr])
  exact hK _ _ ⟨by decide, rfl, S.tl⟩
 by_cases d2 : 1000 < days
 ·rw [if_pos (.inr d2)]
  (refine eK c_saga_Saga_tick (l_a rfl) fun K hK => ?_; (try simp (disch := first|omega|assumption|exact l_a rfl) only [go_sem, ↓wBk, simprocAttr, ir_saga_Saga_tick]))
  (try simp (disch := first|omega|assumption|exact l_a rfl) only [go_sem, ↓wBk, simprocAttr])
  exact hK _ _ ⟨by decide, rfl, S.tl⟩
 rw [if_neg (fun h => h.elim d1 d2)]
 obtain ⟨sd, M, Sc, back⟩ := S.wkCell
 have F := Sc.all
 simp only [aC, aN, yC, and_true] at F
 by_cases d3 : 100000 < w.s.now + days
 ·rw [if_pos d3]
  (refine eK c_saga_Saga_tick (l_a rfl) fun K hK => ?_; (try simp (disch := first|omega|assumption|exact l_a rfl) only [go_sem, ↓wBk, simprocAttr, ir_saga_Saga_tick]))
  (try simp (disch := first|omega|assumption|exact l_a rfl) only [go_sem, ↓wBk, simprocAttr, F, sagE])
  exact hK _ _ ⟨by decide, rfl, S.tl⟩
 rw [if_neg d3]
 clear S
 (refine eK c_saga_Saga_tick (l_a rfl) fun K hK => ?_; (try simp (disch := first|omega|assumption|exact l_a rfl) only [go_sem, ↓wBk, simprocAttr, ir_saga_Saga_tick]))
 (try simp (disch := first|omega|assumption|exact l_a rfl) only [go_sem, ↓wBk, simprocAttr, F, sagE])
 refine tS Sc rfl rfl (l_a rfl) ?_
 clear Sc F
 intro h S
 rw [sagE] at S
 (try simp only [sC, sN, l_h, l_i, Nat.zero_add, Nat.reduceAdd, l_j, l_k] at S)
 obtain ⟨now, hnw⟩ : ∃ now, now = w.s.now + days := ⟨_, rfl⟩
 rw [← hnw] at S hK d3
 have hnow' : 0 ≤ now ∧ now ≤ 100000 := by omega
 have S : St h0 h (wkA L D (.slice Au U.length cu) { w with s := { w.s with now := now } } :: l) := back _ { w.s with now := now } rfl rfl rfl rfl rfl S
 clear back
 obtain ⟨sd, M, Sc, _⟩ := S.wkCell
 have F := Sc.all
 simp only [aC, aN, yC, and_true] at F
 (try simp (disch := first|omega|assumption|exact l_a rfl) only [go_sem, ↓wBk, simprocAttr])
 refine dE ?_
 (try simp (disch := first|omega|assumption|exact l_a rfl) only [go_sem, ↓wBk, simprocAttr, F, sagE])
 clear Sc F
 obtain ⟨M, St1, back⟩ := S.wkTimX
 refine cI (DueT_ok now St1 (by show w.s.T.length < _; omega)) ?_
 clear S St1
 intro v h S
 obtain ⟨w0, hw0⟩ : ∃ w0 : Wk, w0 = { w with s := { w.s with now := now, T := lateT w.s.T now } } := ⟨_, rfl⟩
 have S : St h0 h (wkA L D (.slice Au U.length cu) w0 :: ([ownA iEnc 1 3 v ((dueT w.s.T now).map Tm.num)] ++ l)) := by
  rw [hw0]
  exact back h _ [ownA iEnc 1 3 v ((dueT w.s.T now).map Tm.num)] S.p1
 have W0 : w0.wf U m := by rw [hw0]; exact W.late hnow'
 have hn0 : w0.s.now = now := by rw [hw0]
 rw [← hw0] at hK
 clear back hw0
 have hdl := due_len w.s.T now
 have hdn : ((dueT w.s.T now).map Tm.num).length ≤ 100 := by rw [l_z]; omega
 generalize (dueT w.s.T now).map Tm.num = ds at *
 obtain ⟨A, c, rfl⟩ := S.p1.sl
 have S : St h0 h (wkA L D (.slice Au U.length cu) w0 :: ownA iEnc 1 3 (.slice A ds.length c) ds :: l) := S
 (try simp (disch := first|omega|assumption|exact l_a rfl) only [go_sem, ↓wBk, simprocAttr])
 refine lI (fun ρ h' => ρ 0 = .pointer (some ⟨L.p, 0, none⟩) ∧ ρ 45 = .slice A ds.length c ∧ ρ 46 = .int .i64 ds.length ∧ ∃ (j : Nat) (w1 : Wk), ρ 47 = .int .i64 j ∧ j ≤ ds.length ∧ foldE (dueP D.ss U) w0 (ds.take j) = .ok w1 ∧ w1.wf U (m + 2 * j) ∧ w1.s.now = now ∧
  St h0 h' (wkA L D (.slice Au U.length cu) w1 :: ownA iEnc 1 3 (.slice A ds.length c) ds :: l)) (fun ρ _ => ds.length - (iv (ρ 47)).toNat) ?_ ?_
 ·(try simp (disch := first|omega|assumption|exact l_a rfl) only [go_sem, ↓wBk, simprocAttr])
  exact ⟨0, w0, rfl, by omega, rfl, W0.up (by omega), hn0, S⟩
 clear S
 rintro ρ h J hJ ⟨e0, e45, e46, j, w1, e47, hj, hf, W1, hn1, S⟩
 (try simp (disch := first|omega|assumption|exact l_a rfl) only [go_sem, ↓wBk, simprocAttr, e46, e47])
 refine cD (fun hlt => ?_) (fun hlt => ?_)
 ·have hjl : j < ds.length := by omega
  obtain ⟨b1, o1, rfl, q1⟩ := (S.p1.arr iEnc_len).at hjl
  have q1 := rP0 q1 (by omega)
  simp only [iEnc, l_o, Nat.mul_one] at q1
  obtain ⟨ferr, fok⟩ := foldE_at (dueP D.ss U) hjl hf
  generalize ds[j] = num at *
  (try simp (disch := first|omega|assumption|exact l_a rfl) only [go_sem, ↓wBk, simprocAttr, e0, e45, e47, q1, Nat.mul_one])
  refine cI (due_ok num (fun h' S => hc h' S.tl) (fun h' S => hu h' S.tl) hD S W1 (by omega)) ?_
  clear S q1
  intro v h hv
  cases hdu : dueP D.ss U w1 num with
  | error e =>
   rw [hdu] at hv
   obtain ⟨he, rfl, S⟩ := hv
   have hfe := ferr e hdu
   rw [hfe] at hK
   (try simp (disch := first|omega|assumption|exact l_a rfl) only [go_sem, ↓wBk, simprocAttr])
   exact hK _ _ ⟨he, rfl, S.tl⟩
  | ok w2 =>
   rw [hdu] at hv
   obtain ⟨rfl, S⟩ := hv
   have hn2 : w2.s.now = now := by rw [due_now hdu]; exact hn1
   (try simp (disch := first|omega|assumption|exact l_a rfl) only [go_sem, ↓wBk, simprocAttr, e47])
   refine hJ _ _ ?_ ?_
   ·(try simp (disch := first|omega|assumption|exact l_a rfl) only [go_sem, ↓wBk, simprocAttr, e0, e45, e46])
    exact ⟨j + 1, w2, rfl, by omega, fok w2 hdu, (due_wf hdu W1).1.up (by omega), hn2, S⟩
   ·(try simp (disch := first|omega|assumption|exact l_a rfl) only [go_sem, ↓wBk, simprocAttr, e47])
    omega
 obtain rfl : j = ds.length := by omega
 rw [l_aj] at hf
 rw [hf] at hK
 have hK' : ∀ (v : Value) (h' : Heap), resT h0 L D (.slice Au U.length cu) l ((foldE (fun w (m : Msg) => endP w m.rma 8) { w1 with s := { w1.s with O := leftOf now w1.s.O } } (givenOf now w1.s.O)).map fun w2 => (w2, saidOf now w1.s.O)) v h' → K v h' := hK
 clear hK hJ hf e45 e46 e47
 have S := S.d1
 have hol := W1.ol
 have W1' : w1.wf U (m + 200) := W1.up (by omega)
 clear W1
 obtain ⟨sd, M, Sc, _⟩ := S.wkCell
 have F := Sc.all
 simp only [aC, aN, yC, and_true] at F
 (try simp (disch := first|omega|assumption|exact l_a rfl) only [go_sem, ↓wBk, simprocAttr])
 refine dE ?_
 (try simp (disch := first|omega|assumption|exact l_a rfl) only [go_sem, ↓wBk, simprocAttr, e0, F, sagE, hn1])
 clear Sc F
 obtain ⟨M, So, back⟩ := S.wkObxX
 refine cI (AgainO_ok now So (by omega) ⟨by omega, by omega⟩ (fun x hx => by have := W1'.ot x hx; omega)) ?_
 clear S So
 rintro _ h ⟨s1, s2, rfl, S⟩
 obtain ⟨w2, hw2⟩ : ∃ w2 : Wk, w2 = { w1 with s := { w1.s with O := leftOf now w1.s.O } } := ⟨_, rfl⟩
 have S : St h0 h (wkA L D (.slice Au U.length cu) w2 :: ([ownA Msg.enc 6 110 s1 (saidOf now w1.s.O), ownA Msg.enc 6 110 s2 (givenOf now w1.s.O)] ++ l)) := by
  rw [hw2]
  exact back h _ _ [_, _] S.p2
 have W2 : w2.wf U (m + 201) := by rw [hw2]; exact W1'.left now
 rw [← hw2] at hK'
 clear back hw2
 have hgl : (givenOf now w1.s.O).length ≤ 1000000 := by
  have h1 := flatMap_le (given1 now) (given1_le now) w1.s.O
  unfold givenOf
  omega
 generalize givenOf now w1.s.O = gs at *
 generalize saidOf now w1.s.O = ss at *
 obtain ⟨A, c, rfl⟩ := S.p2.sl
 have S : St h0 h (wkA L D (.slice Au U.length cu) w2 :: ownA Msg.enc 6 110 s1 ss :: ownA Msg.enc 6 110 (.slice A gs.length c) gs :: l) := S
 (try simp (disch := first|omega|assumption|exact l_a rfl) only [go_sem, ↓wBk, simprocAttr])
 refine lI (fun ρ h' => ρ 0 = .pointer (some ⟨L.p, 0, none⟩) ∧ ρ 9 = s1 ∧ ρ 70 = .slice A gs.length c ∧ ρ 71 = .int .i64 gs.length ∧ ∃ (j : Nat) (w3 : Wk), ρ 72 = .int .i64 j ∧ j ≤ gs.length ∧ foldE (fun w (m : Msg) => endP w m.rma 8) w2 (gs.take j) = .ok w3 ∧ w3.wf U (m + 201) ∧
  St h0 h' (wkA L D (.slice Au U.length cu) w3 :: ownA Msg.enc 6 110 s1 ss :: ownA Msg.enc 6 110 (.slice A gs.length c) gs :: l)) (fun ρ _ => gs.length - (iv (ρ 72)).toNat) ?_ ?_
 ·(try simp (disch := first|omega|assumption|exact l_a rfl) only [go_sem, ↓wBk, simprocAttr, e0])
  exact ⟨0, w2, rfl, by omega, rfl, W2, S⟩
 clear S e0
 rintro ρ h J hJ ⟨e0, e9, e70, e71, j, w3, e72, hj, hf, W3, S⟩
 (try simp (disch := first|omega|assumption|exact l_a rfl) only [go_sem, ↓wBk, simprocAttr, e71, e72])
 refine cD (fun hlt => ?_) (fun hlt => ?_)
 ·have hjl : j < gs.length := by omega
  obtain ⟨b1, o1, rfl, q1⟩ := (S.p2.arr enc_len).at hjl
  obtain ⟨ferr, fok⟩ := foldE_at (fun w (m : Msg) => endP w m.rma 8) hjl hf
  generalize gs[j] = x at *
  (try simp (disch := first|omega|assumption|exact l_a rfl) only [go_sem, ↓wBk, simprocAttr, e70, e72, q1])
  (refine tA S ?_; clear S; intro q h S; (try simp only [sC, sN, l_h, l_i, Nat.zero_add, Nat.reduceAdd, l_j, l_k] at S); ((try clear F); have F := S.all; (try simp only [aC, aN, yC, and_true] at F)))
  (try simp (disch := first|omega|assumption|exact l_a rfl) only [go_sem, ↓wBk, simprocAttr, F, Msg.enc])
  (refine tS (by first | exact S | exact S.p1 | exact S.p2 | exact S.p3 | exact S.p4 | exact S.p5 | exact S.p6 | exact S.p7 | exact S.p8 | exact S.p9 | exact S.p10 | exact S.p11) (by rfl) (by rfl) (l_a rfl) ?_; clear S; intro h S; (try simp only [sC, sN, l_h, l_i, Nat.zero_add, Nat.reduceAdd, l_j, l_k] at S); ((try clear F); have F := S.all; (try simp only [aC, aN, yC, and_true] at F)))
  (try simp (disch := first|omega|assumption|exact l_a rfl) only [go_sem, ↓wBk, simprocAttr, e0, F])
  refine cI (end_ok x.rma 8 S.p1 W3 (by omega) hD.ul) ?_
  clear S F q1
  intro v h hv
  cases hdu : endP w3 x.rma 8 with
  | error e =>
   rw [hdu] at hv
   obtain ⟨he, rfl, S⟩ := hv
   have hfe := ferr e hdu
   rw [hfe] at hK'
   (try simp (disch := first|omega|assumption|exact l_a rfl) only [go_sem, ↓wBk, simprocAttr])
   exact hK' _ _ ⟨he, rfl, S.tl.tl.tl⟩
  | ok w4 =>
   rw [hdu] at hv
   obtain ⟨rfl, S⟩ := hv
   (try simp (disch := first|omega|assumption|exact l_a rfl) only [go_sem, ↓wBk, simprocAttr, e72])
   refine hJ _ _ ?_ ?_
   ·(try simp (disch := first|omega|assumption|exact l_a rfl) only [go_sem, ↓wBk, simprocAttr, e0, e9, e70, e71])
    exact ⟨j + 1, w4, rfl, by omega, fok w4 hdu, (end_wf hdu W3).1, S.d1⟩
   ·(try simp (disch := first|omega|assumption|exact l_a rfl) only [go_sem, ↓wBk, simprocAttr, e72])
    omega
 obtain rfl : j = gs.length := by omega
 rw [l_aj] at hf
 rw [hf] at hK'
 (try simp (disch := first|omega|assumption|exact l_a rfl) only [go_sem, ↓wBk, simprocAttr, e9])
 exact hK' _ _ ⟨s1, rfl, S.p2.tl⟩
end
end
end Go.Proofs.YtijnkebgciaieaaGreat.MX
