import Derived.Test.YtcgbhcgfdcfmaaaGreatK24
import Derived.Test.YtcgbhcgfdcfmaaaGreatK22
import Derived.Test.YtcgbhcgfdcfmaaaGreatK20
import Derived.Test.YtcgbhcgfdcfmaaaGreatK23
import Derived.Test.YtcgbhcgfdcfmaaaGreatK11
namespace Go.Proofs.YtcgbhcgfdcfmaaaGreat.MX
open Go Go.Proofs
set_option linter.unusedSimpArgs false
set_option linter.unusedVariables false
section
set_option maxHeartbeats 4000000
theorem b7x {p : Tm → Bool} {L : List Tm} (hp : ∀ x ∈ L, p x = false) : L.find? p = none := List.find?_eq_none.2 fun x hx => by simp [hp x hx]
theorem b0W {p : Tm → Bool} : ∀ {L : List Tm} {i : Nat} (hi : i < L.length), (∀ x ∈ L.take i, p x = false) → p L[i] = true → L.find? p = some L[i]
 | [], i, hi, _, _ => by simp at hi
 | x :: L, 0, hi, _, h => by simpa using by simp [List.find?_cons, show p x = true from h]
 | x :: L, i + 1, hi, h1, h2 => by
  rw [List.find?_cons, show p x = false from h1 x (by simp)]
  exact b0W (by simpa using hi) (fun y hy => h1 y (by simp [hy])) h2
theorem a9U {n : Int} {L : List Tm} (hp : ∀ x ∈ L, a0O n x = false) : without L n = L := List.filter_eq_self.2 fun x hx => by simp [hp x hx]
theorem b0s {n : Int} {L : List Tm} {i : Nat} (hi : i < L.length) (h1 : ∀ x ∈ L.take i, a0O n x = false) (h2 : a0O n L[i] = true) (hg : L.Pairwise (fun a b => a.num ≠ b.num)) : without L n = L.take i ++ L.drop (i + 1) := by
 have hd : ∀ x ∈ L.drop (i + 1), a0O n x = false := by
  intro x hx
  obtain ⟨k, hk, rfl⟩ := List.mem_iff_getElem.1 hx
  rw [H8] at hk
  rw [List.getElem_drop]
  have := List.pairwise_iff_getElem.1 hg i (i + 1 + k) hi (by omega) (by omega)
  simp only [a0O, decide_eq_true_eq] at h2
  simp only [a0O, decide_eq_false_iff_not]
  rw [← h2]
  exact fun e => this e.symm
 unfold without
 conv => lhs; rw [← C6 i L, U6 hi, List.filter_append, List.filter_cons]
 rw [if_neg (by simp [h2])]
 congr 1
 ·exact List.filter_eq_self.2 fun x hx => by simp [h1 x hx]
 ·exact List.filter_eq_self.2 fun x hx => by simp [hd x hx]
def b2J (L : List Tm) (x : Tm) : List Tm := L.take (a5T L x) ++ x :: L.drop (a5T L x)
def setT (L : List Tm) (n d : Int) : List Tm := b2J (without L n) ⟨d, n⟩
def a0J (L : List Tm) (d : Int) : List Tm := L.takeWhile fun x => decide (x.day ≤ d)
def V4 (L : List Tm) (d : Int) : List Tm := L.dropWhile fun x => decide (x.day ≤ d)
def slN : Value → Nat
 | .slice _ n _ => n
 | _ => 0
def a5U (x : Int) : List Value := [.int .i64 x]
theorem a8W (x : Int) : (a5U x).length = 1 := rfl
theorem a9O (x : Int) : pC (a5U x) = true := rfl
section
variable {h0 h : c9} {l : List HP} {t : Nat} {L : List Tm}
theorem St.timO' {s v : Value} {L' : List Tm} (S : St h0 h (f8 t [s] 80 :: a4m tmE 2 135 v L' :: l)) : ∃ A c, v = .slice A L'.length c := S.p1.offSl
theorem St.apart {b : Nat} {cs : List Value} {T T' sz : Nat} {α : Type} {enc : α → List Value} {v : Value} {xs : List α} (S : St h0 h (f8 b cs T :: a4m enc sz T' v xs :: l)) : b ∉ i0 v := by
 obtain ⟨_, C, hp, _, D, hq, hd, _⟩ := S
 obtain ⟨rfl, _⟩ := hp
 obtain ⟨rfl, _⟩ := hq
 exact fun hm => (hd b hm).2 (by simp)
theorem O4.keepPush {α : Type} {enc : α → List Value} {sz T : Nat} {v : Value} {xs : List α} {o : Obj} (ho : O4 enc sz T h v xs) : O4 enc sz T (h.push o) v xs := ho.keep fun b hb => C0 (ho.lt b hb)
theorem a5M (n : Int) (S : St h0 h (C7 t L :: l)) (hL : L.length < 1000000) (hg : W8 L) : d8 Tryz.prog 84 [.pointer (some ⟨t, 0, none⟩), .int .i64 n] h fun v h' => v = .bool (L.find? (a0O n)).isSome ∧ St h0 h' (C7 t (without L n) :: l) := by
 refine EN i84.eq_1 fun K hK => Wa ?_
 refine cI (c0Q n S hL) ?_
 clear S
 rintro _ h ⟨rfl, S⟩
 rcases L1 (a0O n) L 0 with ⟨h1, h2⟩ | ⟨i, h1, hi, h3, h4⟩
 ·simp only [Int.natCast_zero] at h1
  rw [h1]
  refine Wa ?_
  exact hK _ _ ⟨by rw [b7x h2]; rfl, by rw [a9U h2]; exact S⟩
 ·simp only [Nat.zero_add, Int.natCast_zero] at h1
  have hp := h4 _ (l_r hi)
  have hf := b0W hi h3 hp
  obtain ⟨s, S⟩ := St.tim.1 S
  obtain ⟨A, c, rfl⟩ := S.timO
  ((try clear F); have F := S.fx)
  rw [h1]
  refine Wb F ?_
  rw [show ((i : Int) + 1) = ((i + 1 : Nat) : Int) by omega]
  refine cI (b0d (T := 135) (sz := 2) (bytes := 16) i127.2 z3 (by omega) N8 rfl a6H S.p1.off (by omega) (by omega) (by omega)) ?_
  rintro v h' ⟨ho, hfr, hb⟩
  have S := (S.p1.offUp hfr ho (fun b hm => .inl (hb b hm))).p1
  obtain ⟨A', c', rfl⟩ := S.timO'
  ((try clear F); have F := S.fx)
  refine Wb F ?_
  (revert S; (try clear F); refine ST fun h S F => ?_)
  refine Wa ?_
  rw [← b0s hi h3 hp hg.2] at S
  exact hK _ _ ⟨by rw [hf]; rfl, St.tim.2 ⟨_, S⟩⟩
theorem b1Z (n d : Int) (S : St h0 h (C7 t L :: l)) (hL : L.length < 900000) (hg : W8 L) : d8 Tryz.prog 79 [.pointer (some ⟨t, 0, none⟩), .int .i64 n, .int .i64 d] h fun v h' => St h0 h' (C7 t (setT L n d) :: l) := by
 refine EN i79.eq_1 fun K hK => Wa ?_
 refine cI (a5M n S (by omega) hg) ?_
 clear S
 rintro _ h ⟨rfl, S⟩
 refine Wa ?_
 (revert S; (try clear F); refine AL fun q h S F => ?_)
 refine Wb F ?_
 (revert S; (try clear F); refine ST fun h S F => ?_)
 refine Wb F ?_
 have hwl : (without L n).length ≤ L.length := List.length_filter_le _ _
 have hso : (without L n).Pairwise u9 := hg.1.sublist List.filter_sublist
 generalize hW : without L n = W at S hwl hso
 obtain ⟨s, S⟩ := St.tim.1 S.p1
 obtain ⟨A, c, rfl⟩ := S.timO
 ((try clear F); have F := S.fx)
 have hs1 := hso
 have rt : ∀ K u, n6 (fun h' => St h0 h' _) (fun h' => rd1 h' (.pointer (some ⟨t, 0, none⟩))) K u = z7 (some (.slice A W.length c)) K ⟨⟩ := fun K u => B1 S (fun h' s => l9 s)
 have rq : ∀ K u, n6 (fun h' => St h0 h' _) (fun h' => i5 (rdN h' q 0 2) fun cs => some (.agg cs.toArray)) K u = z7 (some (.agg (tmE ⟨d, n⟩).toArray)) K ⟨⟩ := fun K u => B1 S (fun h' s => by rw [J3 s.p2 (by simp)]; rfl)
 refine T4 S ?_
 refine Wc rt rq ?_
 refine cI (b2S (x := ⟨d, n⟩) S (fun h' s => s.p1.offArr z3) hs1 (by omega)) ?_
 rintro _ h1 ⟨⟨fnd, rfl⟩, S1⟩
 refine Wa ?_
 try refine ⟨S1, ?_⟩
 refine Wa ?_
 clear rt rq
 refine a0n (i0 (.slice A W.length c)) ?_
 have r1 : rd1 h1 (.pointer (some ⟨t, 0, none⟩)) = some (.slice A W.length c) := l9 S1
 have htm : t < h1.size := B6 S1.blk
 have htv : t ∉ i0 (.slice A W.length c) := S1.apart
 have rq : ∀ K u, n6 (fun h' => Fr h1 h' (i0 (.slice A W.length c))) (fun h' => i5 (rdN h' q 0 2) fun cs => some (.agg cs.toArray)) K u = z7 (some (.agg [Value.int .i64 d, .int .i64 n].toArray)) K ⟨⟩ := fun K u => by
  rw [b1C (B6 S1.p2.blk) (S1.p2.d1).apart, J3 S1.p2 (by simp)]; rfl
 refine We r1 rq @sC @sN ?_
 simp only [a3t, b1L]
 have S2 : St h0 (h1.push (.cells [Value.int .i64 d, .int .i64 n].toArray 135 (0, 0))) _ := S1.alloc
 have hf2 : Fr h1 (h1.push (.cells [Value.int .i64 d, .int .i64 n].toArray 135 (0, 0))) (i0 (.slice A W.length c)) := (Fr.refl _ _).push _
 refine Wd hf2 @sC @sN ?_
 have hpl : a5T W ⟨d, n⟩ ≤ W.length := List.IsPrefix.length_le (List.takeWhile_prefix _)
 refine cI (b2h (x := ⟨d, n⟩) S1.p1.off.keepPush hpl (by omega) (y7 rfl) (fun hm => by have := S1.p1.off.lt _ hm; omega)) ?_
 rintro v h3 ⟨ho, hf3, hb⟩
 have S3 := (S2.p2.offUp hf3 ho hb).p2
 obtain ⟨A', c', rfl⟩ := S3.timO'
 have hf4 := hf2.trans hf3
 refine Wb hf4 ?_
 refine tS S3 (by rfl) (by rfl) (l_a rfl) ?_
 intro h4 S4
 simp only [sC, sN, l_h] at S4
 refine Wa ?_
 refine hK _ _ ?_
 unfold setT b2J
 rw [hW]
 exact (St.tim.2 ⟨_, S4⟩).d1.d1
theorem b8r (d : Int) (S : St h0 h (C7 t L :: l)) (hL : L.length < 1000000) : d8 Tryz.prog 94 [.pointer (some ⟨t, 0, none⟩), .int .i64 d] h fun v h' => St h0 h' (f9 a5U 1 3 v ((a0J L d).map Tm.num) :: C7 t (V4 L d) :: l) := by
 have S0 : St h0 h (f9 a5U 1 3 (.slice none 0 0) [] :: C7 t L :: l) := S.nilS
 refine EN i94.eq_1 fun K hK => Wa ?_
 refine lI (fun ρ h' => ρ 0 = .pointer (some ⟨t, 0, none⟩) ∧ ρ 1 = .int .i64 d ∧ ∃ v D M, ρ 5 = v ∧ St h0 h' (f9 a5U 1 3 v D :: C7 t M :: l) ∧ M.length ≤ L.length ∧ D.length + M.length = L.length ∧ D ++ (a0J M d).map Tm.num = (a0J L d).map Tm.num ∧ V4 M d = V4 L d) (fun ρ _ => L.length - slN (ρ 5)) ?_ ?_
 ·refine Wa ?_
  exact ⟨_, [], L, rfl, S0, by omega, by simp, rfl, rfl⟩
 ·clear S S0
  rintro ρ h J hJ ⟨e0, e1, v, D, M, e5, S, hML, hDM, hD, hM⟩
  obtain ⟨Av, cv, rfl⟩ := S.sl
  obtain ⟨s, S⟩ := St.tim.1 S.p1
  obtain ⟨A, c, rfl⟩ := S.timO
  ((try clear F); have F := S.fx)
  cases M with
  | nil =>
   simp only [l_g] at S F
   refine Wd e0 e1 F ?_
   refine hK _ _ ?_
   simp only [a0J, V4, List.takeWhile_nil, List.dropWhile_nil, List.map_nil, C4] at hD hM
   refine Wb e5 ?_
   rw [a0J, ← hD, V4, ← hM]
   exact (St.tim.2 ⟨_, S⟩).p1
  | cons x M =>
   obtain ⟨b, off, rfl, hr⟩ := S.p1.offArr z3 0 (by simp)
   simp only [Nat.zero_mul, T2, List.getElem_cons_zero] at hr
   have hr0 : rd1 h (.pointer (some ⟨b, off, none⟩)) = some (.int .i64 x.day) := rP hr 0 (by omega)
   have hr1 : rd1 h (.pointer (some ⟨b, off + 1, none⟩)) = some (.int .i64 x.num) := rP hr 1 (by omega)
   generalize hn : (x :: M).length = n at S F hML hDM
   have hn1 : n = M.length + 1 := by rw [← hn]; simp
   by_cases hx : x.day ≤ d
   ·refine Wh e0 e1 e5 F hr0 hr1 hx ?_
    (revert S; (try clear F); refine AL fun g h S F => ?_)
    refine Wa ?_
    refine tA1 (bytes := 8) (x := x.num) a8W (by omega) a9O rfl rfl S.p3.p1 (by omega) (by omega) ?_
    clear S
    intro v h S
    ((try clear F); have F := S.fx)
    obtain ⟨A', c', hcut, hoff, hblk⟩ := S.p2.off.pop z3
    refine Wd e0 F hcut ?_
    have S := (S.p2.offUp (Fr.refl _ _) hoff (fun b hm => .inl (by rw [← hblk]; exact hm))).p2
    refine tS S (by rfl) (by rfl) (l_a rfl) ?_
    clear S
    intro h S
    simp only [sC, sN, l_h] at S
    refine Wa ?_
    have S := (St.tim.2 ⟨_, S⟩).p1
    obtain ⟨Av', cv', rfl⟩ := S.sl
    rw [a0J, List.takeWhile_cons, if_pos (by simpa using hx)] at hD
    rw [V4, List.dropWhile_cons, if_pos (by simpa using hx)] at hM
    refine hJ _ _ ?_ ?_
    ·refine Wc e0 e1 ?_
     exact ⟨_, _, M, rfl, S, by omega, by simp only [l_m, l_f, l_g]; omega, by rw [← hD]; simp [a0J], hM⟩
    ·refine Wd e5 @slN.eq_1 @slN.eq_2 ?_
     simp only [l_m, l_f, l_g]
     omega
   ·refine Wh e0 e1 e5 F hr0 hr1 hx ?_
    refine hK _ _ ?_
    rw [a0J, List.takeWhile_cons, if_neg (by simpa using hx)] at hD
    rw [V4, List.dropWhile_cons, if_neg (by simpa using hx)] at hM
    rw [← hD, ← hM, List.map_nil, C4]
    subst hn
    exact (St.tim.2 ⟨_, S⟩).p1
end
end
section
set_option maxHeartbeats 4000000
theorem b7J {h0 h : c9} {l : List HP} {t : Nat} (S : St h0 h (f8 t [.slice none 0 0] 80 :: l)) : St h0 h (C7 t [] :: l) := St.tim.2 ⟨_, S.nilO.p1⟩
theorem b6d : W8 [] := ⟨.nil, .nil⟩
end
section
set_option maxHeartbeats 8000000
structure Led where
 a : Int
 b : Int
 c : Int
 d : Int
 e : Int
structure Sag where
 K : List KU
 led : Led
 R : List Ret
 T : List Tm
 key : Int
 O : List Msg
 now : Int
def b9Y (D : Cfg) : HP := a0X (f9 Odr.enc 5 90 (.slice D.A1 D.os.length D.c1) D.os :: f9 Sup.enc 3 95 (.slice D.A2 D.ss.length D.c2) D.ss :: f9 Pol.enc 16 105 (.slice D.A3 D.ps.length D.c3) D.ps :: D.os.map a9s)
def j7 (x : j0) : HP := a1U (f9 j4 1 3 (.slice x.A x.r.us.length x.c) x.r.us) (f9 j4 1 3 (.slice x.B x.r.gs.length x.d) x.r.gs)
def a1X (s : Value) (R : List Ret) : HP := exA fun vs : List j0 => a0X (b0V (vs.map j0.r = R) :: f9 j0.enc 14 59 s vs :: vs.map j7)
def n7 (D : Cfg) (u : Value) (k t o : Nat) (rs sd : Value) (s : Sag) : List Value := [.slice D.A1 D.os.length D.c1, .slice D.A2 D.ss.length D.c2, .slice D.A3 D.ps.length D.c3, u, .pointer (some ⟨k, 0, none⟩), .int .i64 s.led.a, .int .i64 s.led.b, .int .i64 s.led.c, .int .i64 s.led.d, .int .i64 s.led.e, rs, .pointer (some ⟨t, 0, none⟩), .pointer (some ⟨o, 0, none⟩), .int .i64 s.now, sd]
def K0 (p : Nat) (D : Cfg) (u : Value) (s : Sag) : HP := exA fun x : Nat × Nat × Nat × Value => a0X [f8 p (n7 D u x.1 x.2.1 x.2.2.1 x.2.2.2 (.slice none 0 0) s) 84, t6 x.1 s.K, C7 x.2.1 s.T, A9 x.2.2.1 s.key s.O, a1X x.2.2.2 s.R]
def a7l (D : Cfg) (u : Value) (U : List Unt) : HP := a1U (b9Y D) (f9 Unt.enc 4 72 u U)
section
variable {h0 h : c9} {l : List HP} {p : Nat} {D : Cfg} {u : Value} {s : Sag} {U : List Unt}
theorem b8z (S : St h0 h (b9Y D :: l)) : D.rd h := by
 have S := St.stars.1 S
 simp only [l_j] at S
 have R := a8P (L := [_, _, _]) S
 exact ⟨S.arr Odr.enc_len, fun o ho => (R o ho).1, S.p1.arr Sup.enc_len, S.p2.arr Pol.enc_len⟩
theorem a7v (S : St h0 h (a7l D u U :: l)) : D.rd h ∧ ∃ A c, u = .slice A U.length c ∧ Arr Unt.enc 4 h A U := by
 have S := St.star.1 S
 refine ⟨b8z S, ?_⟩
 obtain ⟨A, c, rfl⟩ := S.p1.sl
 exact ⟨A, c, rfl, S.p1.arr Unt.enc_len⟩
theorem b8u (S : St h0 h l) (hm : a7l D u U ∈ l) : D.rd h ∧ ∃ A c, u = .slice A U.length c ∧ Arr Unt.enc 4 h A U := by
 obtain ⟨M, S⟩ := a3z S hm
 exact a7v S
theorem St.rmas {v : Value} {R : List Ret} : St h0 h (a1X v R :: l) ↔ ∃ vs, vs.map j0.r = R ∧ St h0 h (f9 j0.enc 14 59 v vs :: (vs.map j7 ++ l)) := by
 rw [a1X, St.ex]
 refine exists_congr fun vs => ?_
 rw [St.stars]
 exact St.pure
theorem St.saga : St h0 h (K0 p D u s :: l) ↔ ∃ k t o rs, St h0 h (f8 p (n7 D u k t o rs (.slice none 0 0) s) 84 :: t6 k s.K :: C7 t s.T :: A9 o s.key s.O :: a1X rs s.R :: l) := by
 rw [K0, St.ex]
 constructor
 ·rintro ⟨⟨k, t, o, rs⟩, S⟩
  exact ⟨k, t, o, rs, St.stars.1 S⟩
 ·rintro ⟨k, t, o, rs, S⟩
  exact ⟨⟨k, t, o, rs⟩, St.stars.2 S⟩
theorem O1 {x : j0} (S : St h0 h l) (hm : j7 x ∈ l) : Arr j4 1 h x.A x.r.us ∧ Arr j4 1 h x.B x.r.gs := by
 obtain ⟨M, S⟩ := a3z S hm
 have S := St.star.1 S
 exact ⟨S.arr zEl, S.p1.arr zEl⟩
theorem C8.len {D : Cfg} (hok : C8 D) : D.os.length ≤ 20 ∧ D.ss.length ≤ 20 ∧ D.ps.length ≤ 16 ∧ ∀ o ∈ D.os, o.ls.length ≤ 8 := by
 obtain ⟨k0, k1, k2, k3, k4, _⟩ := id hok
 exact ⟨k1, k2, k0.1, fun o ho => (k3 o ho).1.2.1.2⟩
theorem a9j (C : Cfg) (r : ∀ h', St h0 h' l → C.rd h') (hok : C8 C) (S : St h0 h l) :
  d8 Tryz.prog 28 [.agg C.enc.toArray] h fun v h' => ∃ D : Cfg, v = .agg D.enc.toArray ∧ D.wf ∧ D.pu = C.pu ∧ St h0 h' (b9Y D :: l) := by
 obtain ⟨k1, k2, k3, k4⟩ := hok.len
 refine (b2g C r (by omega) (by omega) (by omega) (fun o ho => by have := k4 o ho; omega) S).mono ?_
 rintro v h' ⟨D, rfl, hw, hp, S⟩
 exact ⟨D, rfl, hw, hp, St.stars.2 S⟩
theorem b2z (S : St h0 h (K0 p D u s :: l)) :
  d8 Tryz.prog 14 [.pointer (some ⟨p, 0, none⟩)] h fun v h' => v = .agg (List.toArray [.int .i64 s.led.a, .int .i64 s.led.b, .int .i64 s.led.c, .int .i64 s.led.d, .int .i64 s.led.e]) ∧ St h0 h' (K0 p D u s :: l) := by
 refine EN i14.eq_1 fun K hK => Wa ?_
 (revert S; (try clear F); refine AL fun g h S F => ?_)
 obtain ⟨k, t, o, rs, S⟩ := St.saga.1 S.p1
 ((try clear F); have F := S.fx)
 refine Wc F @n7.eq_1 ?_
 refine tS S.p5 rfl rfl (l_a rfl) ?_
 clear S F
 intro h S
 replace S := S.nm
 ((try clear F); have F := S.fx)
 refine Wb F ?_
 exact hK _ _ ⟨rfl, St.saga.2 ⟨k, t, o, rs, S.tl⟩⟩
end
end
section
set_option maxHeartbeats 8000000
def Ret.zero : Ret := ⟨0, 0, 0, 0, 0, false, 0, 0, [], [], 0, 0, 0, 0⟩
def zR : j0 := ⟨Ret.zero, none, 0, none, 0⟩
section
variable {h0 h : c9} {l : List HP} {p : Nat} {D : Cfg} {u : Value} {s : Sag} {U : List Unt}
theorem a6J {A : Option Addr} {n c : Nat} {xs : List Int} (S : St h0 h l) (ha : Arr j4 1 h A xs) (hn : n = xs.length) (hl : xs.length < 1000000000) :
  d8 Tryz.prog 62 [.slice A n c] h fun v h' => St h0 h' (f9 j4 1 3 v xs :: l) :=
 (N4 (T := 3) (sz := 1) (bytes := 8) i62.2 zEl (by omega) zEp rfl ha hn (Z9 ha) (by omega) (by omega)).mono fun v h' ⟨ho, hf, _⟩ => S.ownNew hf ho
theorem a6L (x : j0) (ha : ∀ h', St h0 h' l → Arr j4 1 h' x.A x.r.us) (hb : ∀ h', St h0 h' l → Arr j4 1 h' x.B x.r.gs) (l1 : x.r.us.length < 1000000) (l2 : x.r.gs.length < 1000000) (S : St h0 h l) :
  d8 Tryz.prog 38 [.agg x.enc.toArray] h fun v h' => ∃ y : j0, v = .agg y.enc.toArray ∧ y.r = x.r ∧ St h0 h' (j7 y :: l) := by
 refine EN i38.eq_1 fun K hK => Wa ?_
 (revert S; (try clear F); refine AL fun b h S F => ?_)
 refine Wa ?_
 (revert S; (try clear F); refine AL fun g h S F => ?_)
 have hg0 := l9 (off := 8) S.p1
 have hg1 := l9 (off := 9) S.p1
 simp only [j0.enc, l_p, l_o] at hg0 hg1
 have hI : (fun h' => rd1 h' (.pointer (some ⟨b, 8, none⟩)) = some (.slice x.A x.r.us.length x.c) ∧ rd1 h' (.pointer (some ⟨b, 9, none⟩)) = some (.slice x.B x.r.gs.length x.d)) h := ⟨hg0, hg1⟩
 have rx : ∀ K t, n6 (fun h' => rd1 h' (.pointer (some ⟨b, 8, none⟩)) = some (.slice x.A x.r.us.length x.c) ∧ rd1 h' (.pointer (some ⟨b, 9, none⟩)) = some (.slice x.B x.r.gs.length x.d)) (fun h' => rd1 h' (.pointer (some ⟨b, 8, none⟩))) K t = K (.slice x.A x.r.us.length x.c) := fun K t => rI (fun h' hh => hh.1) h hI
 have ry : ∀ K t, n6 (fun h' => rd1 h' (.pointer (some ⟨b, 8, none⟩)) = some (.slice x.A x.r.us.length x.c) ∧ rd1 h' (.pointer (some ⟨b, 9, none⟩)) = some (.slice x.B x.r.gs.length x.d)) (fun h' => rd1 h' (.pointer (some ⟨b, 9, none⟩))) K t = K (.slice x.B x.r.gs.length x.d) := fun K t => rI (fun h' hh => hh.2) h hI
 refine Wa ?_
 refine dI (fun h' => rd1 h' (.pointer (some ⟨b, 8, none⟩)) = some (.slice x.A x.r.us.length x.c) ∧ rd1 h' (.pointer (some ⟨b, 9, none⟩)) = some (.slice x.B x.r.gs.length x.d)) hI ?_
 refine Wc rx ry ?_
 refine cI (a6J S (ha _ S.tl.tl) rfl (by omega)) ?_
 clear S F hg0 hg1 hI rx ry
 intro v h S
 obtain ⟨A, c, rfl⟩ := S.sl
 refine ⟨⟨l9 (off := 8) S.p2, l9 (off := 9) S.p2⟩, ?_⟩
 refine Wa ?_
 refine cI (a6J S (hb _ S.tl.tl.tl) rfl (by omega)) ?_
 clear S
 intro v h S
 obtain ⟨B, d, rfl⟩ := S.sl
 refine Wa ?_
 refine tS S.p3 rfl rfl (l_a rfl) ?_
 clear S
 intro h S
 rw [j0.enc] at S
 replace S := S.nm
 refine Wa ?_
 refine tS S rfl rfl (l_a rfl) ?_
 clear S
 intro h S
 replace S := S.nm
 ((try clear F); have F := S.fx)
 refine Wb F ?_
 refine tS S.p3 rfl rfl (l_a rfl) ?_
 clear S F
 intro h S
 replace S := S.nm
 ((try clear F); have F := S.fx)
 refine Wb F ?_
 exact hK _ _ ⟨⟨x.r, A, c, B, d⟩, rfl, rfl, St.star.2 S.tl.tl.p1⟩
theorem b1q (S : St h0 h (K0 p D u s :: l)) (hl : s.R.length < 100000) (hr : ∀ r ∈ s.R, r.us.length < 1000000 ∧ r.gs.length < 1000000) :
  d8 Tryz.prog 15 [.pointer (some ⟨p, 0, none⟩)] h fun v h' => St h0 h' (a1X v s.R :: K0 p D u s :: l) := by
 obtain ⟨k, t, o, rs, S⟩ := St.saga.1 S
 obtain ⟨vs, hvs, S⟩ := St.rmas.1 S.p4
 obtain ⟨A, c, rfl⟩ := S.sl
 have hvl : vs.length = s.R.length := by rw [← hvs, l_z]
 have hg := l9 (off := 10) (S.perm (l' := _ :: (f9 j0.enc 14 59 (.slice A vs.length c) vs :: (vs.map j7 ++ t6 k s.K :: C7 t s.T :: A9 o s.key s.O :: l))) (by exact (List.Perm.cons _ List.perm_middle).trans (List.Perm.swap _ _ _)))
 simp only [n7, l_p, l_o] at hg
 refine EN i15.eq_1 fun K hK => ?_
 refine Wb hg ?_
 refine X6 zR j0.enc_len rfl S (by omega) (by omega) ?_
 intro w h' S'
 have hg' : rd1 h' (.pointer (some ⟨p, 10, none⟩)) = some (.slice A vs.length c) := by
  have := l9 (off := 10) (S'.perm (l' := f8 p (n7 D u k t o (.slice A vs.length c) (.slice none 0 0) s) 84 :: _) (by exact (List.Perm.cons _ (List.Perm.cons _ List.perm_middle)).trans (((List.Perm.cons _ (List.Perm.swap _ _ _))).trans (List.Perm.swap _ _ _))))
  simpa only [n7, l_p, l_o] using this
 clear S hg
 have S := S'
 clear S'
 obtain ⟨B, d, rfl⟩ := S.sl
 rw [C1] at S ⊢
 refine Wb hg' ?_
 refine lI (fun ρ h' => ρ 3 = .slice B vs.length d ∧ ρ 17 = .slice A vs.length c ∧ ρ 18 = .int .i64 vs.length ∧ ∃ (i : Nat) (ys : List j0), ρ 19 = .int .i64 i ∧ i ≤ vs.length ∧ ys.length = i ∧ ys.map j0.r = (vs.take i).map j0.r ∧
  St h0 h' (f9 j0.enc 14 59 (.slice B vs.length d) (ys ++ List.replicate (vs.length - i) zR) :: f9 j0.enc 14 59 (.slice A vs.length c) vs :: (ys.map j7 ++ (vs.map j7 ++ (f8 p (n7 D u k t o (.slice A vs.length c) (.slice none 0 0) s) 84 :: t6 k s.K :: C7 t s.T :: A9 o s.key s.O :: l))))) (fun ρ _ => vs.length - (iv (ρ 19)).toNat) ?_ ?_
 ·refine Wa ?_
  exact ⟨0, [], rfl, by omega, rfl, rfl, S⟩
 clear S hg'
 rintro ρ h J hJ ⟨e3, e17, e18, i, ys, e19, hi, hyl, hyp, S⟩
 refine Wc e18 e19 ?_
 refine cD (fun hlt => ?_) (fun hlt => ?_)
 ·have hil : i < vs.length := by omega
  have hmem := l_v hil
  obtain ⟨b1, o1, hA, q1⟩ := (S.p1.arr j0.enc_len).at hil
  have hin : ∀ {h' : c9} {L : List HP}, St h0 h' L → (∀ x ∈ vs.map j7, x ∈ L) → Arr j4 1 h' vs[i].A vs[i].r.us ∧ Arr j4 1 h' vs[i].B vs[i].r.gs := fun S hL => O1 S (hL _ (a3r hmem))
  have hrl := hr vs[i].r (by rw [← hvs]; exact a3r hmem)
  have hwl : i < (ys ++ List.replicate (vs.length - i) zR).length := by rw [l_m, C1]; omega
  have hset : ∀ y : j0, (ys ++ List.replicate (vs.length - i) zR).set i y = (ys ++ [y]) ++ List.replicate (vs.length - (i + 1)) zR := fun y => by
   rw [a4o _ _ (by omega), hyl, Nat.sub_self, show vs.length - i = vs.length - (i + 1) + 1 by omega, List.replicate_succ, l_h, l_q]
   rfl
  have htk : (vs.take (i + 1)).map j0.r = (vs.take i).map j0.r ++ [vs[i].r] := by rw [l_t hil, N5]; rfl
  generalize vs[i] = x at *
  refine We e17 e19 hA q1 ?_
  (revert S; (try clear F); refine AL fun g h S F => ?_)
  refine Wd F @zR.eq_1 @Ret.zero.eq_1 ?_
  refine tS S rfl rfl (l_a rfl) ?_
  clear S F q1
  intro h S
  rw [j0.enc] at S
  replace S := S.nm
  ((try clear F); have F := S.fx)
  refine Wb F ?_
  rw [show [Value.int .i64 x.r.num, .int .i64 x.r.ord, .int .i64 x.r.rea, .int .i64 x.r.want, .int .i64 x.r.res, .bool x.r.cred, .int .i64 x.r.state, .int .i64 x.r.day, .slice x.A x.r.us.length x.c, .slice x.B x.r.gs.length x.d, .int .i64 x.r.worth, .int .i64 x.r.paid, .int .i64 x.r.credd, .int .i64 x.r.given] = x.enc from rfl]
  refine cI (a6L x (fun h' S => (hin S fun z hz => by simp only [l_e, l_y]; exact .inr (.inr (.inr (.inr (.inl hz))))).1) (fun h' S => (hin S fun z hz => by simp only [l_e, l_y]; exact .inr (.inr (.inr (.inr (.inl hz))))).2) hrl.1 hrl.2 S) ?_
  clear S F
  rintro _ h ⟨y, rfl, hy, S⟩
  obtain ⟨b, rfl⟩ := S.p2.ownAt (by omega)
  refine Wc e3 e19 ?_
  refine u3 j0.enc_len (i := i) (x := y) S.p2 hwl rfl rfl rfl rfl ?_
  clear S
  intro h S
  rw [hset] at S
  refine Wb e19 ?_
  refine hJ _ _ ?_ ?_
  ·refine Wd e3 e17 e18 ?_
   refine ⟨i + 1, ys ++ [y], rfl, by omega, by rw [l_m, hyl]; rfl, by rw [htk, N5, hyp, ← hy]; rfl, ?_⟩
   rw [N5, l_q (ys.map j7)]
   have S : St h0 h (_ :: _ :: j7 y :: (ys.map j7 ++ _)) := S.p2.tl.p1.p2.p2
   exact S.perm (.cons _ (.cons _ List.perm_middle.symm))
  ·refine Wb e19 ?_
   omega
 obtain rfl : i = vs.length := by omega
 rw [Nat.sub_self, List.replicate_zero, C4] at S
 rw [E8] at hyp
 refine Wb e3 ?_
 refine hK _ _ (St.rmas.2 ⟨ys, by rw [hyp, hvs], ?_⟩)
 have e1 : ((ys.map j7) ++ ((vs.map j7) ++ ([f8 p (n7 D u k t o (.slice A vs.length c) (.slice none 0 0) s) 84, t6 k s.K, C7 t s.T, A9 o s.key s.O] ++ l))).Perm ((vs.map j7) ++ ((ys.map j7) ++ ([f8 p (n7 D u k t o (.slice A vs.length c) (.slice none 0 0) s) 84, t6 k s.K, C7 t s.T, A9 o s.key s.O] ++ l))) := List.perm_append_comm_assoc _ _ _
 have e2 : ((ys.map j7) ++ ([f8 p (n7 D u k t o (.slice A vs.length c) (.slice none 0 0) s) 84, t6 k s.K, C7 t s.T, A9 o s.key s.O] ++ l)).Perm ([f8 p (n7 D u k t o (.slice A vs.length c) (.slice none 0 0) s) 84, t6 k s.K, C7 t s.T, A9 o s.key s.O] ++ ((ys.map j7) ++ l)) := List.perm_append_comm_assoc _ _ _
 have S1 := S.swap.perm (l' := _ :: ((vs.map j7) ++ ([f8 p (n7 D u k t o (.slice A vs.length c) (.slice none 0 0) s) 84, t6 k s.K, C7 t s.T, A9 o s.key s.O] ++ (f9 j0.enc 14 59 (.slice B vs.length d) ys :: ((ys.map j7) ++ l)))))
  (List.Perm.cons _ ((List.Perm.cons _ (e1.trans (List.Perm.append_left _ e2))).trans (List.perm_middle.symm.trans (List.Perm.append_left _ List.perm_middle.symm))))
 have S2 := St.rmas.2 ⟨vs, hvs, S1⟩
 have S3 : St h0 h (a1X _ s.R :: f8 p _ _ :: t6 k s.K :: C7 t s.T :: A9 o s.key s.O :: _) := S2
 have S4 := St.saga.2 ⟨k, t, o, _, S3.p4.p4.p4.p4⟩
 exact S4.swap.perm (List.Perm.cons _ List.perm_middle.symm)
end
end
section
set_option maxHeartbeats 16000000
def u4 (ss : List Sup) (sku : Int) : Option Int := match ss with
 | [] => none
 | s :: ss => if s.sku = sku then some s.price else u4 ss sku
theorem b0f {ss : List Sup} {sku : Int} : ∀ {i : Nat} (hi : i < ss.length), (∀ s ∈ ss.take i, s.sku ≠ sku) → ss[i].sku = sku → u4 ss sku = some ss[i].price := by
 induction ss with
 | nil => intro i hi; simp at hi
 | cons s ss ih =>
  intro i hi h1 h2
  match i with
  | 0 => simp only [List.getElem_cons_zero] at h2 ⊢; rw [u4, if_pos h2]
  | i + 1 =>
   rw [u4, if_neg (h1 s (by simp))]
   exact ih (by simpa using hi) (fun x hx => h1 x (by simp [hx])) h2
theorem b0k {ss : List Sup} {sku : Int} (h : ∀ s ∈ ss, s.sku ≠ sku) : u4 ss sku = none := by
 induction ss with
 | nil => rfl
 | cons s ss ih => rw [u4, if_neg (h s (by simp)), ih fun x hx => h x (by simp [hx])]
theorem b4b {ss : List Sup} {sku : Int} {i : Nat} (hi : i < ss.length) (h1 : ∀ s ∈ ss.take i, s.sku ≠ sku) (h2 : ¬ ss[i].sku = sku) : ∀ s ∈ ss.take (i + 1), s.sku ≠ sku := by
 rw [l_t hi]
 intro s hs
 rcases List.mem_append.1 hs with hs | hs
 ·exact h1 s hs
 ·rw [Q9] at hs; rw [hs]; exact h2
theorem a3J {h0 : c9} (C : Cfg) (sku : Int) (r : Arr Sup.enc 3 h0 C.A2 C.ss) (l2 : C.ss.length < 1000000) :
  d8 Tryz.prog 119 [.agg C.enc.toArray, .int .i64 sku] h0 fun v h' => v = .tuple #[.int .i64 ((u4 C.ss sku).getD 0), .int .i64 (if (u4 C.ss sku).isSome then 0 else 7)] ∧ Fr h0 h' [] := by
 have S := St.nil h0
 refine EN i119.eq_1 fun K hK => Wa ?_
 (revert S; (try clear F); refine AL fun g h S F => ?_)
 refine Wc F @Cfg.enc.eq_1 ?_
 refine lI (fun ρ h' => ρ 1 = .int .i64 sku ∧ ρ 9 = .slice C.A2 C.ss.length C.c2 ∧ ρ 10 = .int .i64 C.ss.length ∧ (∃ i : Nat, ρ 11 = .int .i64 i ∧ i ≤ C.ss.length ∧ ∀ s ∈ C.ss.take i, s.sku ≠ sku) ∧ St h0 h' []) (fun ρ _ => C.ss.length - (iv (ρ 11)).toNat) ?_ ?_
 ·refine Wa ?_
  exact ⟨⟨0, rfl, by omega, by simp⟩, S.tl⟩
 clear S F
 rintro ρ h J hJ ⟨e1, e9, e10, ⟨i, e11, hi, hne⟩, S⟩
 refine Wc e10 e11 ?_
 refine cD (fun hlt => ?_) (fun hlt => ?_)
 ·have hil : i < C.ss.length := by omega
  obtain ⟨b, off, hA, hr1⟩ := (r.fr S.fr (by simp)).at hil
  have hat := fun h => b0f (sku := sku) hil hne h
  have hsn := fun h => b4b (sku := sku) hil hne h
  generalize C.ss[i] = x at *
  refine We e9 e11 hA hr1 ?_
  (revert S; (try clear F); refine AL fun q h S F => ?_)
  refine Wc F @Sup.enc.eq_1 ?_
  (revert S; (try clear F); refine ST fun h S F => ?_)
  by_cases c1 : x.sku = sku
  ·refine Wd F e1 c1 ?_
   exact hK _ _ ⟨by rw [hat c1]; rfl, S.fr⟩
  ·refine We F e1 c1 e11 ?_
   refine hJ _ _ ?_ ?_
   ·refine Wd e1 e9 e10 ?_
    exact ⟨⟨i + 1, rfl, by omega, hsn c1⟩, S.tl⟩
   ·refine Wb e11 ?_
    omega
 ·obtain rfl : i = C.ss.length := by omega
  rw [E8] at hne
  refine Wa ?_
  exact hK _ _ ⟨by rw [b0k hne]; rfl, S.fr⟩
end
end Go.Proofs.YtcgbhcgfdcfmaaaGreat.MX
