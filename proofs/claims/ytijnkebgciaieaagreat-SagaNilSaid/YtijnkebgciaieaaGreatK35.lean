import Derived.Test.YtijnkebgciaieaaGreatK34
import Derived.Test.YtijnkebgciaieaaGreatK28
import Derived.Test.YtijnkebgciaieaaGreatK27
namespace Go.Proofs.YtijnkebgciaieaaGreat.MX
open Go Go.Proofs
set_option linter.unusedSimpArgs false
set_option linter.unusedVariables false
section
set_option maxHeartbeats 16000000
structure CmdV where
 c : Cmd
 A : Option Addr
 n : Nat
def CmdV.enc (x : CmdV) : List Value := [.int .i64 x.c.kind, .int .i64 x.c.ord, .slice x.A x.c.us.length x.n, .int .i64 x.c.rea, .int .i64 x.c.want, .bool x.c.cred, .int .i64 x.c.rma, .int .i64 x.c.unit, .int .i64 x.c.grade, .int .i64 x.c.days, .int .i64 x.c.key, .bool x.c.yes]
theorem gradeP_eq {ps : List Pol} {ss : List Sup} {U : List Unt} {w : Wk} {c : Cmd} {i : Nat} (hat : w.s.at_ c.rma = some (w.R i)) (hi : (c.rma - 1).toNat = i) (h4 : (w.R i).state = 4) :
  gradeP ps ss U w c = match gradeE (w.R i) c.unit c.grade with
   | .error e => .error e
   | .ok j => if c.grade = 4 then .error 1 else gradeK ps ss U w c i j := by
 unfold gradeP
 rw [hat]
 simp only [h4, hi, ne_eq, l_ac, if_false]
 rfl
section
variable {h0 h : Heap} {l : List HP} {L : Loc} {D : Cfg} {u : Value} {w : Wk} {U : List Unt} {m b i : Nat}
theorem St.wkClose {X : List HP} {sd : Value} {vs : List RetV} (hv : vs.map RetV.r = w.s.R) (S : St h0 h (X ++ (cellA L.p (sagE D u L.k L.t L.o (.slice L.A w.s.R.length L.c) sd w.s) 64 :: stockA L.k w.s.K :: timA L.t w.s.T :: obxA L.o w.s.key w.s.O ::
  ownA RetV.enc 14 66 (.slice L.A w.s.R.length L.c) vs :: ownA Msg.enc 6 110 sd w.sd :: (vs.map retRow ++ l)))) : St h0 h (wkA L D u w :: (X ++ l)) :=
 St.wk.2 ⟨sd, vs, hv, S.perm (List.perm_append_comm_assoc X (_ :: _ :: _ :: _ :: _ :: _ :: vs.map retRow) l)⟩
theorem st_wkPutY {y : RetV} {Q : Value → Heap → Prop} {s : Tag h} {t : Tag Q} (S : St h0 h (wkA L D u w :: retRow y :: l)) (hA : L.A = some ⟨b, 0, none⟩) (hi : i < w.s.R.length) (hk : ∀ h', St h0 h' (wkA L D u (w.put i y.r) :: l) → Q undef h') : storeT 14 (.pointer (some ⟨b, i * 14, none⟩)) y.enc h Q s t := by
 obtain ⟨sd, vs, hv, S⟩ := St.wk.1 S
 have hil : i < vs.length := by rw [← hv, l_z] at hi; exact hi
 have S4 := S.p4
 rw [hA] at S4
 refine st_setOwn RetV.enc_len (i := i) (x := y) S4 hil rfl rfl rfl rfl ?_
 intro h' S'
 rw [← hA] at S'
 have S2 := S'.p4.p4.p4.p4.perm (perm_rows _ _ _ _ _ _ _ _)
 have e : ∀ (rows X : List HP) (ry : HP), (rows ++ (X ++ ry :: l)).Perm (ry :: (rows ++ (X ++ l))) := fun rows X ry => by
  rw [← l_q, ← l_q]
  exact List.perm_middle
 have S3 := S2.perm (List.Perm.cons _ (e (vs.map retRow) [_, _, _, _, _] (retRow y)))
 have S4 := row_swap (F := retRow) hil S3
 have S5 := S4.perm (perm_rows _ _ _ _ _ _ _ _).symm
 refine hk _ (St.wk.2 ⟨sd, vs.set i y, by rw [List.map_set, hv]; rfl, ?_⟩)
 have e2 : (w.put i y.r).s.R.length = w.s.R.length := put_len
 show St h0 h' (cellA L.p (sagE D u L.k L.t L.o (.slice L.A (w.put i y.r).s.R.length L.c) sd (w.put i y.r).s) 64 :: _ :: _ :: _ :: ownA RetV.enc 14 66 (.slice L.A (w.put i y.r).s.R.length L.c) _ :: _)
 rw [e2]
 exact S5
end
section
variable {h0 h : Heap} {l : List HP} {L : Loc} {D : Cfg} {w : Wk} {U : List Unt} {m b i : Nat} {Au : Option Addr} {cu : Nat}
theorem grade_okS (c : CmdV) (hc : ∀ h', St h0 h' l → D.rd h') (hu : ∀ h', St h0 h' l → Arr Unt.enc 4 h' Au U) (hD : Stc D U) (S : St h0 h (wkA L D (.slice Au U.length cu) w :: l)) (W : w.wf U m) (hm : m < 390000) :
  CallsH Tryz.prog 42 [.pointer (some ⟨L.p, 0, none⟩), .agg c.enc.toArray] h fun v h' => resE h0 L D (.slice Au U.length cu) l (gradeP D.ps D.ss U w c.c) v h' := by
 have hul := hD.ul
 (refine eK c_saga_Saga_grade (l_a rfl) fun K hK => ?_; (try simp (disch := first|omega|assumption|exact l_a rfl) only [go_sem, ↓wBk, simprocAttr, ir_saga_Saga_grade]))
 (refine tA S ?_; clear S; intro g h S; (try simp only [sC, sN, l_h, l_i, Nat.zero_add, Nat.reduceAdd, l_j, l_k] at S); ((try clear F); have F := S.all; (try simp only [aC, aN, yC, and_true] at F)))
 have S : St h0 h (wkA L D (.slice Au U.length cu) w :: cellA g c.enc 31 :: l) := S.p1
 ((try clear F); have F := S.all; (try simp only [aC, aN, yC, and_true] at F))
 (try simp (disch := first|omega|assumption|exact l_a rfl) only [go_sem, ↓wBk, simprocAttr, F, CmdV.enc])
 refine cI (of_ok c.c.rma S W) ?_
 rintro _ _ ⟨rfl, ⟨hn, rfl⟩ | ⟨i, b, hnum, hni, hi, hat, hA, rfl⟩⟩
 ·have hd : gradeP D.ps D.ss U w c.c = .error 7 := by rw [gradeP, hn]
  rw [hd] at hK
  (try simp (disch := first|omega|assumption|exact l_a rfl) only [go_sem, ↓wBk, simprocAttr])
  exact hK _ _ ⟨by decide, rfl, S.tl.tl⟩
 obtain ⟨x0, hx0, hrd, _, _, _⟩ := S.wkRet hA hi
 have q6 := hrd 6 (by omega)
 simp only [RetV.enc, l_o, l_p, hx0] at q6
 by_cases h4 : (w.R i).state = 4
 case neg =>
  have hd : gradeP D.ps D.ss U w c.c = .error 8 := by rw [gradeP, hat]; simp only [ne_eq, h4, l_ab, if_true]
  rw [hd] at hK
  (try simp (disch := first|omega|assumption|exact l_a rfl) only [go_sem, ↓wBk, simprocAttr, q6])
  exact hK _ _ ⟨by decide, rfl, S.tl.tl⟩
 rw [gradeP_eq hat hni h4] at hK
 obtain ⟨hlen, hglen⟩ := W.len _ (R_mem hi)
 (try simp (disch := first|omega|assumption|exact l_a rfl) only [go_sem, ↓wBk, simprocAttr, q6])
 clear q6 hrd hx0 F
 obtain ⟨sd, vs, hv, S⟩ := St.wk.1 S
 have hil : i < vs.length := by rw [← hv, l_z] at hi; exact hi
 obtain ⟨x, hx⟩ : ∃ x, x = vs[i] := ⟨_, rfl⟩
 have ex : x.r = w.R i := by
  rw [hx]
  unfold Wk.R
  rw [← hv, l_s, l_ag, l_r hil]
  rfl
 obtain ⟨LO, hLO⟩ : ∃ LO, LO = (cellA L.p (sagE D (.slice Au U.length cu) L.k L.t L.o (.slice L.A w.s.R.length L.c) sd w.s) 64 :: stockA L.k w.s.K :: timA L.t w.s.T :: obxA L.o w.s.key w.s.O ::
  ownA RetV.enc 14 66 (.slice L.A w.s.R.length L.c) vs :: ownA Msg.enc 6 110 sd w.sd :: (vs.map retRow ++ (cellA g c.enc 31 :: l))) := ⟨_, rfl⟩
 rw [← hLO] at S
 have hrdN : ∀ h', St h0 h' LO → rdN h' b (i * 14) 14 = some x.enc := fun h' S => by
  rw [hLO] at S
  have S4 := S.p4
  rw [hA] at S4
  obtain ⟨b', o', hb, q⟩ := (S4.arr RetV.enc_len).at hil
  cases hb
  rw [hx, ← q, Nat.zero_add]
 have harr : ∀ h', St h0 h' LO → Arr zEnc 1 h' x.A x.r.us ∧ Arr zEnc 1 h' x.B x.r.gs := fun h' S => by
  rw [hLO] at S
  exact retRow_in S (x := x) (by rw [hx]; simp only [l_e, l_y]; exact .inr (.inr (.inr (.inr (.inr (.inr (.inl (l_ai (l_v hil)))))))))
 have hcmd : ∀ h', St h0 h' LO → blk h' g = some (c.enc, 31, (0, 0)) := fun h' S => by
  rw [hLO] at S
  obtain ⟨M, S⟩ := st_mem S (X := cellA g c.enc 31) (by simp)
  exact S.blk
 have rN : ∀ K t, readT (fun h' => St h0 h' LO) (fun h' => bindV (rdN h' b (i * 14) 14) fun cs => some (.agg cs.toArray)) K t = K (.agg x.enc.toArray) := fun K t => rI (fun h' S => by rw [hrdN _ S]; rfl) _ S
 have r7 : ∀ K t, readT (fun h' => St h0 h' LO) (fun h' => rd1 h' (.pointer (some ⟨g, 7, none⟩))) K t = K (.int .i64 c.c.unit) := fun K t => rI (fun h' S => by rw [rd1_blk (hcmd _ S)]; rfl) _ S
 have r8 : ∀ K t, readT (fun h' => St h0 h' LO) (fun h' => rd1 h' (.pointer (some ⟨g, 8, none⟩))) K t = K (.int .i64 c.c.grade) := fun K t => rI (fun h' S => by rw [rd1_blk (hcmd _ S)]; rfl) _ S
 refine cS S (fun ρ' h' => ρ' 0 = .pointer (some ⟨L.p, 0, none⟩) ∧ ρ' 3 = .pointer (some ⟨g, 0, none⟩) ∧ ρ' 5 = .pointer (some ⟨b, i * 14, none⟩) ∧ ∃ (q : Nat) (e : Int) (y : RetV) (X : List HP), ρ' 7 = .pointer (some ⟨q, 0, none⟩) ∧ ρ' 6 = .int .i64 e ∧ St h0 h' (cellA q y.enc 66 :: (X ++ LO)) ∧
  ((e ≠ 0 ∧ gradeE (w.R i) c.c.unit c.c.grade = .error e) ∨ e = 0 ∧ ∃ j, gradeE (w.R i) c.c.unit c.c.grade = .ok j ∧ y.r = { w.R i with gs := (w.R i).gs.set j c.c.grade } ∧ X = [retRow y])) ?_ ?_
 ·intro J hJ
  have hgo : ∀ {h h' : Heap} {v : Value} {M : List HP}, resG h0 M x.r c.c.grade (gradeE x.r c.c.unit c.c.grade) v h' → ∃ (e : Int) (y : RetV) (X : List HP), v = .tuple #[.agg y.enc.toArray, .int .i64 e] ∧ St h0 h' (X ++ M) ∧
    ((e ≠ 0 ∧ gradeE (w.R i) c.c.unit c.c.grade = .error e) ∨ e = 0 ∧ ∃ j, gradeE (w.R i) c.c.unit c.c.grade = .ok j ∧ y.r = { w.R i with gs := (w.R i).gs.set j c.c.grade } ∧ X = [retRow y]) := fun {h h' v M} hv => by
   rw [ex] at hv
   cases hg : gradeE (w.R i) c.c.unit c.c.grade with
   | error e =>
    rw [hg] at hv
    exact ⟨e, zR, [], hv.2.1, hv.2.2, .inl ⟨hv.1, rfl⟩⟩
   | ok j =>
    rw [hg] at hv
    obtain ⟨_, y, hy, e, S⟩ := hv
    exact ⟨0, y, [retRow y], e, S, .inr ⟨rfl, j, rfl, hy, rfl⟩⟩
  (try simp (disch := first|omega|assumption|exact l_a rfl) only [go_sem, ↓wBk, simprocAttr, rN, r7, r8])
  refine ⟨?_, ?_⟩
  ·refine cI (RGrade_ok x c.c.unit c.c.grade (fun h' S => (harr _ S).1) (fun h' S => (harr _ S).2) (by rw [ex]; omega) (by rw [ex]; omega) (by rw [ex]; exact hglen) S) ?_
   clear S rN r7 r8
   intro v h hv
   obtain ⟨e, y, X, rfl, S, hres⟩ := hgo (h := h) hv
   (try simp (disch := first|omega|assumption|exact l_a rfl) only [go_sem, ↓wBk, simprocAttr])
   (refine tA S ?_; clear S; intro q h S; (try simp only [sC, sN, l_h, l_i, Nat.zero_add, Nat.reduceAdd, l_j, l_k] at S); ((try clear F); have F := S.all; (try simp only [aC, aN, yC, and_true] at F)))
   refine ⟨S.tl.dropL, ?_⟩
   (try simp (disch := first|omega|assumption|exact l_a rfl) only [go_sem, ↓wBk, simprocAttr, RetV.enc])
   refine tS S rfl rfl (l_a rfl) ?_
   clear S F
   intro h S
   (try simp only [sC, sN, l_h, l_i, Nat.zero_add, Nat.reduceAdd, l_j, l_k] at S)
   refine hJ _ _ ?_
   (try simp (disch := first|omega|assumption|exact l_a rfl) only [go_sem, ↓wBk, simprocAttr])
   exact ⟨q, e, y, X, rfl, rfl, S, hres⟩
  ·(refine tA S ?_; clear S; intro q h S; (try simp only [sC, sN, l_h, l_i, Nat.zero_add, Nat.reduceAdd, l_j, l_k] at S); ((try clear F); have F := S.all; (try simp only [aC, aN, yC, and_true] at F)))
   refine ⟨S.tl, ?_⟩
   (try simp (disch := first|omega|assumption|exact l_a rfl) only [go_sem, ↓wBk, simprocAttr])
   refine cI (RGrade_ok (l := cellA q _ _ :: LO) x c.c.unit c.c.grade (fun h' S => (harr _ S.tl).1) (fun h' S => (harr _ S.tl).2) (by rw [ex]; omega) (by rw [ex]; omega) (by rw [ex]; exact hglen) S) ?_
   clear S rN r7 r8 F
   intro v h hv
   obtain ⟨e, y, X, rfl, S, hres⟩ := hgo (h := h) hv
   have S := S.perm (List.perm_middle)
   (try simp (disch := first|omega|assumption|exact l_a rfl) only [go_sem, ↓wBk, simprocAttr, RetV.enc])
   refine tS S rfl rfl (l_a rfl) ?_
   clear S
   intro h S
   (try simp only [sC, sN, l_h, l_i, Nat.zero_add, Nat.reduceAdd, l_j, l_k] at S)
   refine hJ _ _ ?_
   (try simp (disch := first|omega|assumption|exact l_a rfl) only [go_sem, ↓wBk, simprocAttr])
   exact ⟨q, e, y, X, rfl, rfl, S, hres⟩
 clear S rN r7 r8
 rintro ρ' h ⟨e0, e3, e5, q, e, y, X, e7, e6, S, hres⟩
 rw [hLO] at S
 clear hrdN harr hcmd hLO
 rcases hres with ⟨he, hg⟩ | ⟨rfl, j, hg, hy, rfl⟩
 ·rw [hg] at hK
  (try simp (disch := first|omega|assumption|exact l_a rfl) only [go_sem, ↓wBk, simprocAttr, e6])
  exact hK _ _ ⟨he, rfl, (S.tl.dropL).tl.tl.tl.tl.tl.tl.dropL.tl⟩
 obtain ⟨hright, hgr, hjl, huj, hgj⟩ := gradeE_ok hg
 rw [hg] at hK
 have hK' : ∀ (v : Value) (h' : Heap), resE h0 L D (.slice Au U.length cu) l (if c.c.grade = 4 then .error 1 else gradeK D.ps D.ss U w c.c i j) v h' → K v h' := hK
 clear hK hg hgj
 have S : St h0 h (wkA L D (.slice Au U.length cu) w :: cellA q y.enc 66 :: retRow y :: cellA g c.enc 31 :: l) := St.wkClose (X := [_, _]) hv S
 clear hv hil hx ex hat
 ((try clear F); have F := S.all; (try simp only [aC, aN, yC, and_true] at F))
 by_cases k4 : c.c.grade = 4
 ·rw [if_pos k4] at hK'
  (try simp (disch := first|omega|assumption|exact l_a rfl) only [go_sem, ↓wBk, simprocAttr, e6, e3, F, CmdV.enc])
  exact hK' _ _ ⟨by decide, rfl, S.tl.tl.tl.tl⟩
 rw [if_neg k4] at hK'
 have hunit := (W.rr _ (R_mem hi)).2 _ (l_v hjl)
 have hunit0 := ((W.rr _ (R_mem hi)).1.2.2 j hjl).1.1
 rw [← getD_at hjl, huj] at hunit
 rw [huj] at hunit0
 obtain ⟨n, hn⟩ := l_u hunit0
 have hnU : n < U.length := by omega
 have hn2 : untAt U c.c.unit = untAt U (n : Int) := by rw [hn]
 obtain ⟨P, hP⟩ : ∃ P, P = polOf D.ps (untAt U (n : Int)).cat := ⟨_, rfl⟩
 have hPr : P.right := hP ▸ polOf_right hD.cfg.1 _
 have hsh := untAt_share hD.sh (n : Int)
 (try simp (disch := first|omega|assumption|exact l_a rfl) only [go_sem, ↓wBk, simprocAttr, e6, e0, e3, F, CmdV.enc, hn])
 refine cI (policy_okS n hnU (fun h' S => hc h' S.tl.tl.tl) (fun h' S => hu h' S.tl.tl.tl) S) ?_
 clear S F
 rintro _ h ⟨rfl, S⟩
 rw [← hP]
 (try simp (disch := first|omega|assumption|exact l_a rfl) only [go_sem, ↓wBk, simprocAttr])
 (refine tA S ?_; clear S; intro pc h S; (try simp only [sC, sN, l_h, l_i, Nat.zero_add, Nat.reduceAdd, l_j, l_k] at S); ((try clear F); have F := S.all; (try simp only [aC, aN, yC, and_true] at F)))
 (try simp (disch := first|omega|assumption|exact l_a rfl) only [go_sem, ↓wBk, simprocAttr, Pol.enc])
 (refine tS (by first | exact S | exact S.p1 | exact S.p2 | exact S.p3 | exact S.p4 | exact S.p5 | exact S.p6 | exact S.p7 | exact S.p8 | exact S.p9 | exact S.p10 | exact S.p11) (by rfl) (by rfl) (l_a rfl) ?_; clear S; intro h S; (try simp only [sC, sN, l_h, l_i, Nat.zero_add, Nat.reduceAdd, l_j, l_k] at S); ((try clear F); have F := S.all; (try simp only [aC, aN, yC, and_true] at F)))
 have S : St h0 h (cellA pc P.enc 133 :: wkA L D (.slice Au U.length cu) w :: cellA q y.enc 66 :: retRow y :: cellA g c.enc 31 :: l) := S
 obtain ⟨x0, hx0, hrd, _, _, _⟩ := S.p1.wkRet hA hi
 have q2 := hrd 2 (by omega)
 simp only [RetV.enc, l_o, l_p, hx0] at q2
 obtain ⟨sd2, M, Sc, _⟩ := S.p1.wkCell
 have F2 := Sc.all
 simp only [aC, aN, yC, and_true] at F2
 obtain ⟨b4, o4, hA4, q4⟩ := (hu _ S.tl.tl.tl.tl.tl).at hnU
 have q43 := rP q4 3 (by omega)
 simp only [Unt.enc, l_o, l_p] at q43
 have hat : untAt U (n : Int) = U[n] := by rw [untAt, l_ap, l_s, l_r hnU]; rfl
 rw [← hat] at q43
 ((try clear F); have F := S.all; (try simp only [aC, aN, yC, and_true] at F))
 (try simp (disch := first|omega|assumption|exact l_a rfl) only [go_sem, ↓wBk, simprocAttr])
 refine dE ?_
 (try simp (disch := first|omega|assumption|exact l_a rfl) only [go_sem, ↓wBk, simprocAttr, e0, e3, e5, F, F2.1, sagE, Pol.enc, CmdV.enc, hn, hA4, q43, q2])
 refine cI (Worth_ok P (untAt U (n : Int)).share (w.R i).rea c.c.grade hPr ⟨hright.2.2.1.1, by have := hright.2.2.1.2; omega⟩ ⟨hgr.1, by have := hgr.2; omega⟩ hsh.1 (by omega) _) ?_
 clear Sc F2 F q4 q43 hrd q2 hx0
 rintro _ h ⟨rfl, f1⟩
 have S := S.frame f1
 clear f1
 ((try clear F); have F := S.all; (try simp only [aC, aN, yC, and_true] at F))
 (try simp (disch := first|omega|assumption|exact l_a rfl) only [go_sem, ↓wBk, simprocAttr, e7, F, RetV.enc])
 refine tS S.p2 rfl rfl (l_a rfl) ?_
 clear S F
 intro h S
 rw [RetV.enc] at S
 (try simp only [sC, sN, l_h, l_i, Nat.zero_add, Nat.reduceAdd, l_j, l_k] at S)
 obtain ⟨y2, hy2⟩ : ∃ y2 : RetV, y2 = { y with r := { y.r with worth := w64 ((w.R i).worth + wrt P (untAt U (n : Int)).share (w.R i).rea c.c.grade) } } := ⟨_, rfl⟩
 have hyw : y.r.worth = (w.R i).worth := by rw [hy]
 have S : St h0 h (cellA q y2.enc 66 :: cellA pc P.enc 133 :: wkA L D (.slice Au U.length cu) w :: retRow y2 :: cellA g c.enc 31 :: l) := by
  rw [hyw] at S
  rw [hy2]
  exact S
 have hy2r : y2.r = { w.R i with gs := (w.R i).gs.set j c.c.grade, worth := w64 ((w.R i).worth + wrt P (untAt U (n : Int)).share (w.R i).rea c.c.grade) } := by rw [hy2, hy]
 clear hy2 hyw
 have S : St h0 h (wkA L D (.slice Au U.length cu) w :: retRow y2 :: cellA q y2.enc 66 :: cellA pc P.enc 133 :: cellA g c.enc 31 :: l) := by (refine St.perm S ?_; repeat (with_reducible first | exact List.Perm.refl _ | refine pm0 ?_ | refine pm1 ?_ | refine pm2 ?_ | refine pm3 ?_ | refine pm4 ?_ | refine pm5 ?_ | refine pm6 ?_ | refine pm7 ?_ | refine pm8 ?_ | refine pm9 ?_ | refine pm10 ?_ | refine pm11 ?_ | refine pm12 ?_))
 ((try clear F); have F := S.all; (try simp only [aC, aN, yC, and_true] at F))
 (try simp (disch := first|omega|assumption|exact l_a rfl) only [go_sem, ↓wBk, simprocAttr, e5, e7, F])
 refine st_wkPutY S hA hi ?_
 clear S F
 intro h S
 obtain ⟨w1, hw1⟩ : ∃ w1, w1 = w.put i y2.r := ⟨_, rfl⟩
 rw [← hw1] at S
 have hwr := W.rr _ (R_mem hi)
 have W1 : w1.wf U m := by
  rw [hw1, hy2r]
  exact W.put ⟨okUnits_set hwr.1 ⟨by have := hgr.1; omega, hgr.2⟩, hwr.2⟩
 have hi1 : i < w1.s.R.length := by rw [hw1, put_len]; exact hi
 have hR1 : w1.R i = y2.r := by rw [hw1]; exact R_put hi
 have hd : gradeK D.ps D.ss U w c.c i j = let w2 := if P.gto c.c.grade ≠ 0 then w1.mv n (P.gto c.c.grade) else sayP (w1.mv n 8) 4 (w1.R i).num n
   if (w2.R i).gs.contains (-1) = true then .ok w2 else settleP D.ss w2 i 4 := by
  have hnum : (w1.R i).num = (w.R i).num := by rw [hR1, hy2r]
  rw [hnum, hw1, hy2r]
  unfold gradeK
  simp only [hn2, ← hP, hn]
 rw [hd] at hK'
 clear hd hw1
 ((try clear F); have F := S.all; (try simp only [aC, aN, yC, and_true] at F))
 (try simp (disch := first|omega|assumption|exact l_a rfl) only [go_sem, ↓wBk, simprocAttr, F, e3, CmdV.enc])
 refine cI (To_ok P c.c.grade hPr ⟨hgr.1, by have := hgr.2; omega⟩ _) ?_
 rintro _ h ⟨rfl, f1⟩
 have S := S.frame f1
 clear f1 F
 have hkl1 := W1.kl
 have hR1n : ∀ to, (w1.mv n to).R i = w1.R i := fun _ => rfl
 generalize hT : cellA q y2.enc 66 = Tq at *
 (try simp (disch := first|omega|assumption|exact l_a rfl) only [go_sem, ↓wBk, simprocAttr])
 refine cC (fun ρ' h' => ρ' 0 = .pointer (some ⟨L.p, 0, none⟩) ∧ ρ' 5 = .pointer (some ⟨b, i * 14, none⟩) ∧ ∃ w2 : Wk, w2.wf U (m + 1) ∧ w2.s.R.length = w1.s.R.length ∧ St h0 h' (wkA L D (.slice Au U.length cu) w2 :: Tq :: cellA pc P.enc 133 :: cellA g c.enc 31 :: l) ∧
  (if P.gto c.c.grade ≠ 0 then w1.mv n (P.gto c.c.grade) else sayP (w1.mv n 8) 4 (w1.R i).num n) = w2) ?_ ?_ ?_
 ·intro hb J hJ
  have hto : P.gto c.c.grade ≠ 0 := fun e => by rw [dT e] at hb; cases hb
  obtain ⟨sd2, M, Sc, _⟩ := S.wkCell
  have F2 := Sc.all
  simp only [aC, aN, yC, and_true] at F2
  ((try clear F); have F := S.all; (try simp only [aC, aN, yC, and_true] at F))
  (try simp (disch := first|omega|assumption|exact l_a rfl) only [go_sem, ↓wBk, simprocAttr])
  refine dE ?_
  (try simp (disch := first|omega|assumption|exact l_a rfl) only [go_sem, ↓wBk, simprocAttr, e0, e3, F, F2.1, sagE, CmdV.enc, hn])
  clear Sc F2 F
  obtain ⟨M, Sk, back⟩ := S.wkStock
  refine cI (Move_ok (n : Int) (P.gto c.c.grade) Sk (by omega)) ?_
  clear S Sk
  rintro _ h ⟨rfl, Sk⟩
  have S := back _ _ Sk
  refine hJ _ _ ?_
  (try simp (disch := first|omega|assumption|exact l_a rfl) only [go_sem, ↓wBk, simprocAttr, e0, e5])
  exact ⟨_, (W1.mv _ _).up (by omega), rfl, S, if_pos hto⟩
 ·intro hb J hJ
  have hto : P.gto c.c.grade = 0 := Classical.byContradiction fun e => by rw [dF e] at hb; cases hb
  obtain ⟨sd2, M, Sc, _⟩ := S.wkCell
  have F2 := Sc.all
  simp only [aC, aN, yC, and_true] at F2
  ((try clear F); have F := S.all; (try simp only [aC, aN, yC, and_true] at F))
  (try simp (disch := first|omega|assumption|exact l_a rfl) only [go_sem, ↓wBk, simprocAttr])
  refine dE ?_
  (try simp (disch := first|omega|assumption|exact l_a rfl) only [go_sem, ↓wBk, simprocAttr, e0, e3, F, F2.1, sagE, CmdV.enc, hn])
  clear Sc F2 F
  obtain ⟨M, Sk, back⟩ := S.wkStock
  refine cI (Move_ok (n : Int) 8 Sk (by omega)) ?_
  clear S Sk
  rintro _ h ⟨rfl, Sk⟩
  have S : St h0 h (wkA L D (.slice Au U.length cu) (w1.mv n 8) :: _) := back _ _ Sk
  clear back Sk
  obtain ⟨x0, hx0, hrd, _, _, _⟩ := S.wkRet hA hi1
  have q0 := hrd 0 (by omega)
  simp only [RetV.enc, l_o, l_p, hx0, Nat.add_zero, hR1n] at q0
  ((try clear F); have F := S.all; (try simp only [aC, aN, yC, and_true] at F))
  (try simp (disch := first|omega|assumption|exact l_a rfl) only [go_sem, ↓wBk, simprocAttr])
  refine dE ?_
  (try simp (disch := first|omega|assumption|exact l_a rfl) only [go_sem, ↓wBk, simprocAttr, e0, e3, e5, F, q0, CmdV.enc, hn])
  refine cI (say_ok 4 _ _ S (W1.mv _ _) (by omega)) ?_
  clear S F q0 hrd
  intro v h S
  (try simp (disch := first|omega|assumption|exact l_a rfl) only [go_sem, ↓wBk, simprocAttr])
  refine hJ _ _ ?_
  (try simp (disch := first|omega|assumption|exact l_a rfl) only [go_sem, ↓wBk, simprocAttr, e0, e5])
  exact ⟨_, (W1.mv _ _).say _ _ _, rfl, S, if_neg (fun h => h hto)⟩
 clear S e0 e3 e5 e6 e7
 rintro ρ2 h ⟨e0, e5, w2, W2, l2, S, heq⟩
 rw [heq] at hK'
 clear heq
 have hi2 : i < w2.s.R.length := by omega
 obtain ⟨hlen2, hglen2⟩ := W2.len _ (R_mem hi2)
 obtain ⟨x0, hx0, _, hrdN, _, hg2⟩ := S.wkRet hA hi2
 (try simp (disch := first|omega|assumption|exact l_a rfl) only [go_sem, ↓wBk, simprocAttr, e5, hrdN])
 refine cI (Graded_ok x0 hg2 (by rw [hx0]; omega) (by rw [hx0]; exact hglen2)) ?_
 rintro _ h ⟨rfl, f1⟩
 have S := S.frame f1
 clear f1 hrdN hg2
 rw [hx0]
 by_cases hm1 : (-1 : Int) ∈ (w2.R i).gs
 ·have hK2 : ∀ (v : Value) (h' : Heap), resE h0 L D (.slice Au U.length cu) l (.ok w2) v h' → K v h' := fun v h' hr => hK' v h' (by
   simp only
   rw [if_pos (List.contains_iff_mem.2 hm1)]
   exact hr)
  rw [dT hm1]
  (try simp (disch := first|omega|assumption|exact l_a rfl) only [go_sem, ↓wBk, simprocAttr])
  exact hK2 _ _ ⟨rfl, S.d1.d1.d1⟩
 ·have hK2 : ∀ (v : Value) (h' : Heap), resE h0 L D (.slice Au U.length cu) l (settleP D.ss w2 i 4) v h' → K v h' := fun v h' hr => hK' v h' (by
   simp only
   rw [if_neg (fun h => hm1 (List.contains_iff_mem.1 h))]
   exact hr)
  rw [dF hm1]
  (try simp (disch := first|omega|assumption|exact l_a rfl) only [go_sem, ↓wBk, simprocAttr, e0, e5])
  refine cI (settle_ok 4 hc hD S.d1.d1.d1 W2 (by omega) hA hi2) ?_
  clear S
  intro v h hv
  (try simp (disch := first|omega|assumption|exact l_a rfl) only [go_sem, ↓wBk, simprocAttr])
  exact hK2 _ _ hv
end
end
section
set_option maxHeartbeats 16000000
def Led.sum (x : Led) : Int := x.a + x.b + x.c + x.d + x.e
def okL (n : Int) : Prop := -1125899906842624 ≤ n ∧ n ≤ 1125899906842624
def Led.ok (x : Led) : Prop := okL x.a ∧ okL x.b ∧ okL x.c ∧ okL x.d ∧ okL x.e
def doneR (r : Ret) : Prop := 6 ≤ r.state ∧ r.state ≤ 9
structure Aud (D : Cfg) (U : List Unt) (s : Sag) : Prop where
 cfg : okCfg D
 sh : shOk U
 ul : U.length ≤ 200
 led : s.led.ok
 rl : s.R.length ≤ 100
 rr : ∀ r ∈ s.R, r.right ∧ ∀ v ∈ r.us, v < U.length
 kl : s.K.length ≤ 200
 ol : s.O.length < 1000000
theorem Aud.len {D : Cfg} {U : List Unt} {s : Sag} (W : Aud D U s) : ∀ r ∈ s.R, r.us.length < 1000000 ∧ r.gs.length < 1000000 := fun r hr => by
 have h := (W.rr r hr).1.2.2.2.2.2.2.2.1
 have h1 := h.1.2
 have h2 := h.2.1
 omega
theorem RDone_ok (x : RetV) (h : Heap) : CallsH Tryz.prog 139 [.agg x.enc.toArray] h fun v h' => v = .bool (dcd (doneR x.r)) ∧ Fr h h' [] := by
 have S := St.nil h
 (refine eK c_rma_Done (l_a rfl) fun K hK => ?_; (try simp (disch := first|omega|assumption|exact l_a rfl) only [go_sem, ↓wBk, simprocAttr, ir_rma_Done]))
 (refine tA S ?_; clear S; intro b h S; (try simp only [sC, sN, l_h, l_i, Nat.zero_add, Nat.reduceAdd, l_j, l_k] at S); ((try clear F); have F := S.all; (try simp only [aC, aN, yC, and_true] at F)))
 by_cases h1 : 6 ≤ x.r.state
 ·by_cases h2 : x.r.state ≤ 9
  ·(try simp (disch := first|omega|assumption|exact l_a rfl) only [go_sem, ↓wBk, simprocAttr, F, RetV.enc, h1, h2])
   exact hK _ _ ⟨by rw [dT ⟨h1, h2⟩], S.fr⟩
  ·(try simp (disch := first|omega|assumption|exact l_a rfl) only [go_sem, ↓wBk, simprocAttr, F, RetV.enc, h1, h2])
   exact hK _ _ ⟨by rw [dF fun h => h2 h.2], S.fr⟩
 ·(try simp (disch := first|omega|assumption|exact l_a rfl) only [go_sem, ↓wBk, simprocAttr, F, RetV.enc, h1])
  exact hK _ _ ⟨by rw [dF fun h => h1 h.1], S.fr⟩
section
variable {h0 h : Heap} {l : List HP} {p : Nat} {D : Cfg} {s : Sag} {U : List Unt} {A : Option Addr} {c : Nat}
theorem sAa (S : St h0 h l) (hm : stcA D (.slice A U.length c) U ∈ l) : D.rd h ∧ Arr Unt.enc 4 h A U := by
 obtain ⟨h1, A', c', e, h2⟩ := stcA_in S hm
 cases e
 exact ⟨h1, h2⟩
end
end
end Go.Proofs.YtijnkebgciaieaaGreat.MX
