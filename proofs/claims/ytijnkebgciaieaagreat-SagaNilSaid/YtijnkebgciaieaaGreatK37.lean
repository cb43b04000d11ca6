import Derived.Test.YtijnkebgciaieaaGreatK36
namespace Go.Proofs.YtijnkebgciaieaaGreat.MX
open Go Go.Proofs
set_option linter.unusedSimpArgs false
set_option linter.unusedVariables false
section
set_option maxHeartbeats 8000000
theorem firstE_no {α : Type} {f : α → Int} : ∀ {L : List α}, (∀ x ∈ L, f x = 0) → firstE f L = 0
 | [], _ => rfl
 | x :: L, h => by rw [firstE, if_pos (h x (by simp))]; exact firstE_no fun y hy => h y (by simp [hy])
theorem firstE_at {α : Type} {f : α → Int} : ∀ {L : List α} {i : Nat} (hi : i < L.length), (∀ x ∈ L.take i, f x = 0) → f L[i] ≠ 0 → firstE f L = f L[i]
 | [], i, hi, _, _ => absurd hi (by simp)
 | x :: L, 0, _, _, h => by simp only [List.getElem_cons_zero] at h ⊢; rw [firstE, if_neg h]
 | x :: L, i + 1, hi, h1, h2 => by
  have hx : f x = 0 := h1 x (by simp)
  simp only [List.getElem_cons_succ] at h2 ⊢
  rw [firstE, if_pos hx]
  exact firstE_at (by simpa using hi) (fun y hy => h1 y (by simp [hy])) h2
section
variable {h0 h : Heap} {l : List HP} {L : Loc} {D : Cfg} {w : Wk} {U : List Unt} {m b i : Nat} {Au : Option Addr} {cu : Nat}
theorem sasked_ok (x : CmdV) (hc : ∀ h', St h0 h' l → D.rd h') (hu : ∀ h', St h0 h' l → Arr Unt.enc 4 h' Au U) (hx : ∀ h', St h0 h' l → Arr zEnc 1 h' x.A x.c.us) (hxl : x.c.us.length < 1000000) (hD : Stc D U) (ho : 0 ≤ x.c.ord ∧ x.c.ord < D.os.length)
  (S : St h0 h (wkA L D (.slice Au U.length cu) w :: l)) (W : w.wf U m) :
  CallsH Tryz.prog 62 [.pointer (some ⟨L.p, 0, none⟩), .agg x.enc.toArray] h fun v h' => v = .int .i64 (askedP D.ps D.os U w.s x.c) ∧ St h0 h' (wkA L D (.slice Au U.length cu) w :: l) := by
 have hul := hD.ul
 have hol := hD.cfg.2.1
 have hnow := W.now
 have hd : askedP D.ps D.os U w.s x.c = if dcd (∀ i, i < x.c.us.length → askUnit U x.c i) = false then 1 else if x.c.rea < 0 ∨ 4 ≤ x.c.rea ∨ 1000 < x.c.want then 1 else firstE (askWare D.ps D.os U w.s x.c) x.c.us := rfl
 generalize askedP D.ps D.os U w.s x.c = E at *
 (refine eK c_saga_Saga_asked (l_a rfl) fun K hK => ?_; (try simp (disch := first|omega|assumption|exact l_a rfl) only [go_sem, ↓wBk, simprocAttr, ir_saga_Saga_asked]))
 (refine tA S ?_; clear S; intro g h S; (try simp only [sC, sN, l_h, l_i, Nat.zero_add, Nat.reduceAdd, l_j, l_k] at S); ((try clear F); have F := S.all; (try simp only [aC, aN, yC, and_true] at F)))
 have S : St h0 h (wkA L D (.slice Au U.length cu) w :: cellA g x.enc 31 :: l) := S.p1
 ((try clear F); have F := S.all; (try simp only [aC, aN, yC, and_true] at F))
 (try simp (disch := first|omega|assumption|exact l_a rfl) only [go_sem, ↓wBk, simprocAttr, F, CmdV.enc])
 refine lI (fun ρ h' => ρ 0 = .pointer (some ⟨L.p, 0, none⟩) ∧ ρ 3 = .pointer (some ⟨g, 0, none⟩) ∧ ρ 11 = .slice x.A x.c.us.length x.n ∧ ρ 12 = .int .i64 x.c.us.length ∧ ∃ i : Nat, ρ 13 = .int .i64 i ∧ i ≤ x.c.us.length ∧ (∀ j, j < i → askUnit U x.c j) ∧
  St h0 h' (wkA L D (.slice Au U.length cu) w :: cellA g x.enc 31 :: l)) (fun ρ _ => x.c.us.length - (iv (ρ 13)).toNat) ?_ ?_
 ·(try simp (disch := first|omega|assumption|exact l_a rfl) only [go_sem, ↓wBk, simprocAttr])
  exact ⟨0, rfl, by omega, fun j hj => absurd hj (by omega), S⟩
 clear S F
 rintro ρ h J hJ ⟨e0, e3, e11, e12, i, e13, hi, hok, S⟩
 (try simp (disch := first|omega|assumption|exact l_a rfl) only [go_sem, ↓wBk, simprocAttr, e12, e13])
 refine cD (fun hlt => ?_) (fun hlt => ?_)
 ·have hil : i < x.c.us.length := by omega
  obtain ⟨b1, o1, hA1, q1⟩ := (hx _ S.tl.tl).at hil
  have q1 := rP0 q1 (by omega)
  simp only [zEnc, l_o, Nat.mul_one] at q1
  rw [← getD_at] at q1
  have hbad : ¬ askUnit U x.c i → E = 1 := fun hn => by rw [hd, if_pos (dF fun h => hn (h i hil))]
  have hgo : askUnit U x.c i → ∀ j, j < i + 1 → askUnit U x.c j := fun hx j hj => by
   by_cases e : j = i
   ·rw [e]; exact hx
   ·exact hok j (by omega)
  have hU : askUnit U x.c i ↔ ((0 < i → x.c.us.getD (i - 1) 0 < x.c.us.getD i 0) ∧ 0 ≤ x.c.us.getD i 0 ∧ x.c.us.getD i 0 < U.length ∧ (untAt U (x.c.us.getD i 0)).ord = x.c.ord) := Iff.rfl
  obtain ⟨sd, M, Sc, _⟩ := S.wkCell
  have F2 := Sc.all
  simp only [aC, aN, yC, and_true] at F2
  ((try clear F); have F := S.all; (try simp only [aC, aN, yC, and_true] at F))
  have q4' : ∀ n : Nat, n < U.length → ∃ b4 o4, Au = some ⟨b4, o4, none⟩ ∧ rd1 h (.pointer (some ⟨b4, o4 + n * 4, none⟩)) = some (.int .i64 (untAt U n).ord) := fun n hn => by
   obtain ⟨b4, o4, hA4, q4⟩ := (hu _ S.tl.tl).at hn
   have q40 := rP0 q4 (by omega)
   simp only [Unt.enc, l_o] at q40
   refine ⟨b4, o4, hA4, ?_⟩
   have hat : untAt U (n : Int) = U[n] := by rw [untAt, l_ap, l_s, l_r hn]; rfl
   rw [hat]
   exact q40
  by_cases c2 : 0 < i
  ·obtain ⟨j, rfl⟩ : ∃ j, i = j + 1 := ⟨i - 1, by omega⟩
   obtain ⟨b3, o3, hA3, q3⟩ := (hx _ S.tl.tl).at (i := j) (by omega)
   rw [hA1] at hA3
   cases hA3
   have q3 := rP0 q3 (by omega)
   simp only [zEnc, l_o, Nat.mul_one] at q3
   rw [← getD_at] at q3
   have hj1 : ((j + 1 : Nat) : Int) - 1 = (j : Int) := by omega
   have hj0 : (0 : Int) < ((j + 1 : Nat) : Int) := by omega
   rw [Nat.add_sub_cancel] at hU
   generalize x.c.us.getD (j + 1) 0 = u at *
   generalize x.c.us.getD j 0 = u' at *
   by_cases c3 : u ≤ u'
   ·(try simp (disch := first|omega|assumption|exact l_a rfl) only [go_sem, ↓wBk, simprocAttr, e11, e13, hA1, q1, Nat.mul_one])
    refine dE ?_
    (try simp (disch := first|omega|assumption|exact l_a rfl) only [go_sem, ↓wBk, simprocAttr, e3, F, CmdV.enc, hA1, hj0, hj1, q3, c3, Nat.mul_one])
    exact hK _ _ ⟨by rw [hbad fun h => by have := (hU.1 h).1 (by omega); omega], S.d1⟩
   by_cases c4 : u < 0
   ·(try simp (disch := first|omega|assumption|exact l_a rfl) only [go_sem, ↓wBk, simprocAttr, e11, e13, hA1, q1, Nat.mul_one])
    refine dE ?_
    (try simp (disch := first|omega|assumption|exact l_a rfl) only [go_sem, ↓wBk, simprocAttr, e3, F, CmdV.enc, hA1, hj0, hj1, q3, c3, Nat.mul_one, c4])
    exact hK _ _ ⟨by rw [hbad fun h => by have := (hU.1 h).2.1; omega], S.d1⟩
   by_cases c5 : (U.length : Int) ≤ u
   ·(try simp (disch := first|omega|assumption|exact l_a rfl) only [go_sem, ↓wBk, simprocAttr, e11, e13, hA1, q1, Nat.mul_one])
    refine dE ?_
    (try simp (disch := first|omega|assumption|exact l_a rfl) only [go_sem, ↓wBk, simprocAttr, e0, e3, F, F2, sagE, CmdV.enc, hA1, hj0, hj1, q3, c3, Nat.mul_one, c4, c5])
    exact hK _ _ ⟨by rw [hbad fun h => by have := (hU.1 h).2.2.1; omega], S.d1⟩
   obtain ⟨n, rfl⟩ := l_u (by omega : 0 ≤ u)
   obtain ⟨b4, o4, hA4, q4⟩ := q4' n (by omega)
   by_cases c6 : (untAt U n).ord = x.c.ord
   case neg =>
    (try simp (disch := first|omega|assumption|exact l_a rfl) only [go_sem, ↓wBk, simprocAttr, e11, e13, hA1, q1, Nat.mul_one])
    refine dE ?_
    (try simp (disch := first|omega|assumption|exact l_a rfl) only [go_sem, ↓wBk, simprocAttr, e0, e3, F, F2, sagE, CmdV.enc, hA1, hA4, hj0, hj1, q3, q4, c3, Nat.mul_one, c4, c5, c6])
    exact hK _ _ ⟨by rw [hbad fun h => c6 (hU.1 h).2.2.2], S.d1⟩
   (try simp (disch := first|omega|assumption|exact l_a rfl) only [go_sem, ↓wBk, simprocAttr, e11, e13, hA1, q1, Nat.mul_one])
   refine dE ?_
   (try simp (disch := first|omega|assumption|exact l_a rfl) only [go_sem, ↓wBk, simprocAttr, e0, e3, F, F2, sagE, CmdV.enc, hA1, hA4, hj0, hj1, q3, q4, c3, Nat.mul_one, c4, c5, c6, e13])
   refine hJ _ _ ?_ ?_
   ·(try simp (disch := first|omega|assumption|exact l_a rfl) only [go_sem, ↓wBk, simprocAttr, e0, e3, e11, e12, hA1])
    exact ⟨j + 1 + 1, rfl, by omega, hgo (hU.2 ⟨fun _ => by omega, by omega, by omega, c6⟩), S⟩
   ·(try simp (disch := first|omega|assumption|exact l_a rfl) only [go_sem, ↓wBk, simprocAttr, e13])
    omega
  ·obtain rfl : i = 0 := by omega
   rw [Nat.add_zero] at q1
   generalize x.c.us.getD 0 0 = u at *
   by_cases c4 : u < 0
   ·(try simp (disch := first|omega|assumption|exact l_a rfl) only [go_sem, ↓wBk, simprocAttr, e11, e13, hA1, q1, Nat.mul_one])
    refine dE ?_
    (try simp (disch := first|omega|assumption|exact l_a rfl) only [go_sem, ↓wBk, simprocAttr, e3, F, CmdV.enc, hA1, Nat.mul_one, c4])
    exact hK _ _ ⟨by rw [hbad fun h => by have := (hU.1 h).2.1; omega], S.d1⟩
   by_cases c5 : (U.length : Int) ≤ u
   ·(try simp (disch := first|omega|assumption|exact l_a rfl) only [go_sem, ↓wBk, simprocAttr, e11, e13, hA1, q1, Nat.mul_one])
    refine dE ?_
    (try simp (disch := first|omega|assumption|exact l_a rfl) only [go_sem, ↓wBk, simprocAttr, e0, e3, F, F2, sagE, CmdV.enc, hA1, Nat.mul_one, c4, c5])
    exact hK _ _ ⟨by rw [hbad fun h => by have := (hU.1 h).2.2.1; omega], S.d1⟩
   obtain ⟨n, rfl⟩ := l_u (by omega : 0 ≤ u)
   obtain ⟨b4, o4, hA4, q4⟩ := q4' n (by omega)
   by_cases c6 : (untAt U n).ord = x.c.ord
   case neg =>
    (try simp (disch := first|omega|assumption|exact l_a rfl) only [go_sem, ↓wBk, simprocAttr, e11, e13, hA1, q1, Nat.mul_one])
    refine dE ?_
    (try simp (disch := first|omega|assumption|exact l_a rfl) only [go_sem, ↓wBk, simprocAttr, e0, e3, F, F2, sagE, CmdV.enc, hA1, hA4, q4, Nat.mul_one, c4, c5, c6])
    exact hK _ _ ⟨by rw [hbad fun h => c6 (hU.1 h).2.2.2], S.d1⟩
   (try simp (disch := first|omega|assumption|exact l_a rfl) only [go_sem, ↓wBk, simprocAttr, e11, e13, hA1, q1, Nat.mul_one])
   refine dE ?_
   (try simp (disch := first|omega|assumption|exact l_a rfl) only [go_sem, ↓wBk, simprocAttr, e0, e3, F, F2, sagE, CmdV.enc, hA1, hA4, q4, Nat.mul_one, c4, c5, c6, e13])
   refine hJ _ _ ?_ ?_
   ·(try simp (disch := first|omega|assumption|exact l_a rfl) only [go_sem, ↓wBk, simprocAttr, e0, e3, e11, e12, hA1])
    exact ⟨1, rfl, by omega, hgo (hU.2 ⟨fun h => absurd h (by omega), by omega, by omega, c6⟩), S⟩
   ·(try simp (disch := first|omega|assumption|exact l_a rfl) only [go_sem, ↓wBk, simprocAttr, e13])
    omega
 obtain rfl : i = x.c.us.length := by omega
 rw [if_neg (by rw [dT hok]; decide)] at hd
 ((try clear F); have F := S.all; (try simp only [aC, aN, yC, and_true] at F))
 by_cases k1 : x.c.rea < 0
 ·rw [if_pos (.inl k1)] at hd
  (try simp (disch := first|omega|assumption|exact l_a rfl) only [go_sem, ↓wBk, simprocAttr, e3, F, CmdV.enc, k1])
  exact hK _ _ ⟨by rw [hd], S.d1⟩
 by_cases k2 : 4 ≤ x.c.rea
 ·rw [if_pos (.inr (.inl k2))] at hd
  (try simp (disch := first|omega|assumption|exact l_a rfl) only [go_sem, ↓wBk, simprocAttr, e3, F, CmdV.enc, k1, k2])
  exact hK _ _ ⟨by rw [hd], S.d1⟩
 by_cases k3 : 1000 < x.c.want
 ·rw [if_pos (.inr (.inr k3))] at hd
  (try simp (disch := first|omega|assumption|exact l_a rfl) only [go_sem, ↓wBk, simprocAttr, e3, F, CmdV.enc, k1, k2, k3])
  exact hK _ _ ⟨by rw [hd], S.d1⟩
 rw [if_neg (fun h => h.elim k1 fun h => h.elim k2 k3)] at hd
 (try simp (disch := first|omega|assumption|exact l_a rfl) only [go_sem, ↓wBk, simprocAttr, e3, F, CmdV.enc, k1, k2, k3])
 clear e11 e12 e13 hi hlt F
 have p0 := e0
 have p3 := e3
 clear e0 e3
 refine lI (fun ρ h' => ρ 0 = .pointer (some ⟨L.p, 0, none⟩) ∧ ρ 3 = .pointer (some ⟨g, 0, none⟩) ∧ ρ 71 = .slice x.A x.c.us.length x.n ∧ ρ 72 = .int .i64 x.c.us.length ∧ ∃ i : Nat, ρ 73 = .int .i64 i ∧ i ≤ x.c.us.length ∧ (∀ u ∈ x.c.us.take i, askWare D.ps D.os U w.s x.c u = 0) ∧
  St h0 h' (wkA L D (.slice Au U.length cu) w :: cellA g x.enc 31 :: l)) (fun ρ _ => x.c.us.length - (iv (ρ 73)).toNat) ?_ ?_
 ·(try simp (disch := first|omega|assumption|exact l_a rfl) only [go_sem, ↓wBk, simprocAttr, p0, p3])
  exact ⟨0, rfl, by omega, by simp, S⟩
 clear S p0 p3
 rintro ρ h J hJ ⟨e0, e3, e71, e72, i, e73, hi, hno, S⟩
 (try simp (disch := first|omega|assumption|exact l_a rfl) only [go_sem, ↓wBk, simprocAttr, e72, e73])
 refine cD (fun hlt => ?_) (fun hlt => ?_)
 ·have hil : i < x.c.us.length := by omega
  obtain ⟨b1, o1, hA1, q1⟩ := (hx _ S.tl.tl).at hil
  have q1 := rP0 q1 (by omega)
  simp only [zEnc, l_o, Nat.mul_one] at q1
  have hbad : askWare D.ps D.os U w.s x.c x.c.us[i] ≠ 0 → E = askWare D.ps D.os U w.s x.c x.c.us[i] := fun hn => by rw [hd]; exact firstE_at hil hno hn
  have hgo : askWare D.ps D.os U w.s x.c x.c.us[i] = 0 → ∀ u ∈ x.c.us.take (i + 1), askWare D.ps D.os U w.s x.c u = 0 := fun hx r hr => by
   rw [l_t hil] at hr
   rcases List.mem_append.1 hr with hr | hr
   ·exact hno r hr
   ·rw [l_aa] at hr; rw [hr]; exact hx
  obtain ⟨_, hu0, huU, _⟩ := hok i hil
  rw [getD_at hil] at hu0 huU
  generalize x.c.us[i] = u at *
  obtain ⟨n, rfl⟩ := l_u hu0
  obtain ⟨Q, hQ⟩ : ∃ Q, Q = askWare D.ps D.os U w.s x.c n := ⟨_, rfl⟩
  have hw : Q = if placeK w.s.K n ≠ 0 ∨ 0 < holderS w.s n then 13 else mayP (polOf D.ps (untAt U n).cat) (w.s.now - ((D.os[x.c.ord.toNat]?).map Odr.day).getD 0) (decide (0 < x.c.want)) := hQ
  rw [← hQ] at hbad hgo
  clear hQ
  obtain ⟨sd, M, Sc, _⟩ := S.wkCell
  have F2 := Sc.all
  simp only [aC, aN, yC, and_true] at F2
  (try simp (disch := first|omega|assumption|exact l_a rfl) only [go_sem, ↓wBk, simprocAttr, e0, e71, e73, hA1, q1, F2, sagE, Nat.mul_one])
  clear F2 Sc
  obtain ⟨M, Sk, _⟩ := S.wkStock
  refine cI (PlaceK_ok (n : Int) Sk) ?_
  clear Sk
  rintro _ _ ⟨rfl, rfl⟩
  by_cases d1 : placeK w.s.K n = 0
  case neg =>
   rw [if_pos (.inl d1)] at hw
   (try simp (disch := first|omega|assumption|exact l_a rfl) only [go_sem, ↓wBk, simprocAttr, d1])
   exact hK _ _ ⟨by rw [hbad (by rw [hw]; decide), hw], S.d1⟩
  (try simp (disch := first|omega|assumption|exact l_a rfl) only [go_sem, ↓wBk, simprocAttr, d1, e0])
  refine cI (holder_ok (n : Int) S W) ?_
  clear S
  rintro _ h ⟨rfl, S⟩
  by_cases d2 : 0 < holderS w.s n
  ·rw [if_pos (.inr d2)] at hw
   (try simp (disch := first|omega|assumption|exact l_a rfl) only [go_sem, ↓wBk, simprocAttr, d2])
   exact hK _ _ ⟨by rw [hbad (by rw [hw]; decide), hw], S.d1⟩
  rw [if_neg (fun h => h.elim (fun h => h d1) d2)] at hw
  (try simp (disch := first|omega|assumption|exact l_a rfl) only [go_sem, ↓wBk, simprocAttr, d2])
  obtain ⟨k, hk⟩ := l_u ho.1
  have hkl : k < D.os.length := by omega
  rw [hk, l_ap, l_r hkl] at hw
  simp only [Option.map_some, Option.getD_some] at hw
  have hday := (hD.cfg.2.2.2.1 _ (l_v hkl)).1.1
  obtain ⟨bo, oo, hAo, _⟩ := (hc _ S.tl.tl).os.at hkl
  have hqd : ∀ h', St h0 h' l → rd1 h' (.pointer (some ⟨bo, oo + k * 5, none⟩)) = some (.int .i64 (D.os[k]).day) := fun h' S => by
   obtain ⟨b5, o5, hA5, q5⟩ := (hc _ S).os.at hkl
   rw [hAo] at hA5
   cases hA5
   have p5 := rP0 q5 (by omega)
   simpa only [Odr.enc, l_o] using p5
  generalize D.os[k] = o at *
  have hcell : ∀ h', St h0 h' (wkA L D (.slice Au U.length cu) w :: cellA g x.enc 31 :: l) → ∃ sd, blk h' L.p = some (sagE D (.slice Au U.length cu) L.k L.t L.o (.slice L.A w.s.R.length L.c) sd w.s, 64, (0, 0)) := fun h' S => by
   obtain ⟨sd, M, Sc, _⟩ := S.wkCell
   exact ⟨sd, Sc.blk⟩
  have r13 : ∀ K t, readT (fun h' => St h0 h' (wkA L D (.slice Au U.length cu) w :: cellA g x.enc 31 :: l)) (fun h' => rd1 h' (.pointer (some ⟨L.p, 13, none⟩))) K t = K (.int .i64 w.s.now) := fun K t => rI (fun h' S => by obtain ⟨sd, hb⟩ := hcell _ S; rw [rd1_blk hb]; rfl) h S
  have r0 : ∀ K t, readT (fun h' => St h0 h' (wkA L D (.slice Au U.length cu) w :: cellA g x.enc 31 :: l)) (fun h' => rd1 h' (.pointer (some ⟨L.p, 0, none⟩))) K t = K (.slice (some ⟨bo, oo, none⟩) D.os.length D.c1) := fun K t => rI (fun h' S => by obtain ⟨sd, hb⟩ := hcell _ S; rw [rd1_blk hb, ← hAo]; rfl) h S
  have r1 : ∀ K t, readT (fun h' => St h0 h' (wkA L D (.slice Au U.length cu) w :: cellA g x.enc 31 :: l)) (fun h' => rd1 h' (.pointer (some ⟨g, 1, none⟩))) K t = K (.int .i64 k) := fun K t => rI (fun h' S => by rw [rd1_blk S.tl.blk, ← hk]; rfl) h S
  have r4 : ∀ K t, readT (fun h' => St h0 h' (wkA L D (.slice Au U.length cu) w :: cellA g x.enc 31 :: l)) (fun h' => rd1 h' (.pointer (some ⟨g, 4, none⟩))) K t = K (.int .i64 x.c.want) := fun K t => rI (fun h' S => by rw [rd1_blk S.tl.blk]; rfl) h S
  have rd : ∀ K t, readT (fun h' => St h0 h' (wkA L D (.slice Au U.length cu) w :: cellA g x.enc 31 :: l)) (fun h' => rd1 h' (.pointer (some ⟨bo, oo + k * 5, none⟩))) K t = K (.int .i64 o.day) := fun K t => rI (fun h' S => hqd _ S.tl.tl) h S
  have hPr := polOf_right hD.cfg.1 (untAt U n).cat
  obtain ⟨wb, hwb⟩ : ∃ wb, wb = decide (0 < x.c.want) := ⟨_, rfl⟩
  have hwd : dcd (0 < x.c.want) = wb := by
   rw [hwb]
   by_cases e : 0 < x.c.want
   ·rw [dT e]; simp [e]
   ·rw [dF e]; simp [e]
  rw [← hwb] at hw
  refine dI (fun h' => St h0 h' (wkA L D (.slice Au U.length cu) w :: cellA g x.enc 31 :: l)) S ?_
  (try simp (disch := first|omega|assumption|exact l_a rfl) only [go_sem, ↓wBk, simprocAttr, e0, e3, r13, r0, r1, r4, rd, hwd])
  refine cI (policy_okS n (by omega) (fun h' S => hc h' S.tl) (fun h' S => hu h' S.tl) S) ?_
  clear S r13 r0 r1 r4 rd hqd hcell
  rintro _ h ⟨rfl, S⟩
  refine ⟨S, ?_⟩
  (try simp (disch := first|omega|assumption|exact l_a rfl) only [go_sem, ↓wBk, simprocAttr, hwd])
  refine cI (rMay_ok _ (w.s.now - o.day) wb hPr _) ?_
  rintro _ h ⟨rfl, f1⟩
  have S := S.frame f1
  clear f1
  rw [← hw]
  by_cases d3 : Q = 0
  ·(try simp (disch := first|omega|assumption|exact l_a rfl) only [go_sem, ↓wBk, simprocAttr, d3, e73])
   refine hJ _ _ ?_ ?_
   ·(try simp (disch := first|omega|assumption|exact l_a rfl) only [go_sem, ↓wBk, simprocAttr, e0, e3, e71, e72, hA1])
    exact ⟨i + 1, rfl, by omega, hgo d3, S⟩
   ·(try simp (disch := first|omega|assumption|exact l_a rfl) only [go_sem, ↓wBk, simprocAttr, e73])
    omega
  ·(try simp (disch := first|omega|assumption|exact l_a rfl) only [go_sem, ↓wBk, simprocAttr, d3])
   exact hK _ _ ⟨by rw [hbad d3], S.d1⟩
 obtain rfl : i = x.c.us.length := by omega
 rw [l_aj] at hno
 (try simp (disch := first|omega|assumption|exact l_a rfl) only [go_sem, ↓wBk, simprocAttr])
 exact hK _ _ ⟨by rw [hd, firstE_no hno], S.d1⟩
end
end
end Go.Proofs.YtijnkebgciaieaaGreat.MX
