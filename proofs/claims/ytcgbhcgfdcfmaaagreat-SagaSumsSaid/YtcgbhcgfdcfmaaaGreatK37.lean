import Derived.Test.YtcgbhcgfdcfmaaaGreatK36
import Derived.Test.YtcgbhcgfdcfmaaaGreatK30
import Derived.Test.YtcgbhcgfdcfmaaaGreatK20
import Derived.Test.YtcgbhcgfdcfmaaaGreatK26
import Derived.Test.YtcgbhcgfdcfmaaaGreatK19
namespace Go.Proofs.YtcgbhcgfdcfmaaaGreat.MX
open Go Go.Proofs
set_option linter.unusedSimpArgs false
set_option linter.unusedVariables false
section
set_option maxHeartbeats 8000000
def b3N (h0 : c9) (L : Loc) (D : Cfg) (u : Value) (l : List HP) (x : Except Int (Int × List Msg × Wk)) (v : Value) (h' : c9) : Prop := match x with
 | .error e => e ≠ 0 ∧ ∃ (n : Int) (sl : Value), v = .tuple #[.int .i64 n, sl, .int .i64 e] ∧ St h0 h' l
 | .ok y => ∃ A c sl, v = .tuple #[.int .i64 y.1, sl, .int .i64 0] ∧ St h0 h' (f9 Msg.enc 6 44 sl y.2.1 :: wkA { L with A := A, c := c } D u y.2.2 :: l)
section
variable {h0 h : c9} {l : List HP} {p : Nat} {D : Cfg} {u : Value} {s : Sag} {U : List Unt} {m : Nat} {w : Wk} {L : Loc} {Au : Option Addr} {cu : Nat}
theorem a3F {x : Except Int Wk} {v : Value} (hv : X7 h0 L D u l x v h) : b3N h0 L D u l (x.map fun w => (0, [], w)) (.tuple #[.int .i64 0, .slice none 0 0, v]) h := by
 cases x with
 | error e =>
  obtain ⟨he, rfl, S⟩ := hv
  exact ⟨he, 0, _, rfl, S⟩
 | ok w =>
  obtain ⟨rfl, S⟩ := hv
  exact ⟨L.A, L.c, _, rfl, S.nilS⟩
theorem a0a {x : Except Int Wk} {v : Value} (hv : X7 h0 L D u l x v h) : ∃ n, v = .int .i64 n := by
 cases x with
 | error e => exact ⟨_, hv.2.1⟩
 | ok w => exact ⟨_, hv.1⟩
theorem b9n {x : Except Int (Wk × List Msg)} {v : Value} (hv : b9N h0 L D u l x v h) : ∃ (s : Value) (e : Int), v = .tuple #[s, .int .i64 e] ∧ b3N h0 L D u l (x.map fun x => (0, x.2, x.1)) (.tuple #[.int .i64 0, s, .int .i64 e]) h := by
 cases x with
 | error e =>
  obtain ⟨he, rfl, S⟩ := hv
  exact ⟨_, _, rfl, he, 0, _, rfl, S⟩
 | ok w =>
  obtain ⟨s, rfl, S⟩ := hv
  exact ⟨_, _, rfl, L.A, L.c, _, rfl, S.p1⟩
theorem b9s {x : Except Int (Int × Wk)} {v : Value} (hv : resQ h0 L D u l x v h) : ∃ (n e : Int), v = .tuple #[.int .i64 n, .int .i64 e] ∧ b3N h0 L D u l (x.map fun x => (x.1, [], x.2)) (.tuple #[.int .i64 n, .slice none 0 0, .int .i64 e]) h := by
 cases x with
 | error e =>
  obtain ⟨he, rfl, S⟩ := hv
  exact ⟨_, _, rfl, he, 0, _, rfl, S⟩
 | ok w =>
  obtain ⟨rfl, A, c, S⟩ := hv
  exact ⟨_, _, rfl, A, c, _, rfl, S.nilS⟩
theorem b8b {c : Cmd} {y : Int × List Msg × Wk} (h : doP D U w c = .ok y) (W : w.wf U m) : y.2.1.length ≤ 70000 + m + 200 := by
 unfold doP at h
 split at h
 ·obtain ⟨z, _, rfl⟩ := x8 h; exact Nat.zero_le _
 split at h
 ·obtain ⟨z, _, rfl⟩ := x8 h; exact Nat.zero_le _
 split at h
 ·obtain ⟨z, _, rfl⟩ := x8 h; exact Nat.zero_le _
 split at h
 ·obtain ⟨z, _, rfl⟩ := x8 h; exact Nat.zero_le _
 split at h
 ·obtain ⟨z, _, rfl⟩ := x8 h; exact Nat.zero_le _
 split at h
 ·obtain ⟨z, _, rfl⟩ := x8 h; exact Nat.zero_le _
 split at h
 ·obtain ⟨z, hz, rfl⟩ := x8 h; exact (b1n hz W).2.2
 ·obtain ⟨z, _, rfl⟩ := x8 h; exact Nat.zero_le _
theorem c0i (x : m7) (hc : ∀ h', St h0 h' l → D.rd h') (hu : ∀ h', St h0 h' l → Arr Unt.enc 4 h' Au U) (hx : ∀ h', St h0 h' l → Arr j4 1 h' x.A x.c.us) (hxl : x.c.kind = 1 → 1 ≤ x.c.us.length ∧ x.c.us.length ≤ 200) (hi : x.c.i64) (hD : Stc D U)
  (S : St h0 h (wkA L D (.slice Au U.length cu) w :: l)) (W : w.wf U m) (hm : m < 250000) :
  d8 Tryz.prog 31 [.pointer (some ⟨L.p, 0, none⟩), .agg x.enc.toArray] h fun v h' => b3N h0 L D (.slice Au U.length cu) l (doP D U w x.c) v h' := by
 have hul := hD.ul
 obtain ⟨X, hX⟩ : ∃ X, X = doP D U w x.c := ⟨_, rfl⟩
 rw [← hX]
 unfold doP at hX
 refine EN i31.eq_1 fun K hK => Wa ?_
 (revert S; (try clear F); refine AL fun g h S F => ?_)
 have S : St h0 h (wkA L D (.slice Au U.length cu) w :: f8 g x.enc 40 :: l) := S.p1
 have hdrop : ∀ {L : Loc} {v : Value} {h' : c9}, b3N h0 L D (.slice Au U.length cu) (f8 g x.enc 40 :: l) X v h' → b3N h0 L D (.slice Au U.length cu) l X v h' := fun {L v h'} hv => by
  cases X with
  | error e => obtain ⟨he, n, sl, rfl, S⟩ := hv; exact ⟨he, n, sl, rfl, S.tl⟩
  | ok y => obtain ⟨A, c, sl, rfl, S⟩ := hv; exact ⟨A, c, sl, rfl, S.p2.tl⟩
 ((try clear F); have F := S.fx)
 by_cases k1 : x.c.kind = 1
 ·rw [if_pos k1] at hX
  (try simp (disch := first|omega|assumption|exact l_a rfl) only [go_sem, ↓wBk, simprocAttr, F, m7.enc, eq_true k1])
  refine cI (b0m x (fun h' S => hc _ S.tl) (fun h' S => hu _ S.tl) (fun h' S => hx _ S.tl) (hxl k1) hD S W (by omega)) ?_
  clear S F
  intro v h hv
  obtain ⟨n, e, rfl, hv2⟩ := b9s hv
  rw [← hX] at hv2
  refine Wa ?_
  exact hK _ _ (hdrop hv2)
 rw [if_neg k1] at hX
 by_cases k2 : x.c.kind = 2
 ·rw [if_pos k2] at hX
  refine We F @m7.enc.eq_1 k1 k2 ?_
  refine cI (a3A _ _ S W (by omega) hul) ?_
  clear S F
  intro v h hv
  obtain ⟨e, rfl⟩ := a0a hv
  have hv := a3F hv
  rw [← hX] at hv
  refine Wa ?_
  exact hK _ _ (hdrop hv)
 rw [if_neg k2] at hX
 by_cases k3 : x.c.kind = 3
 ·rw [if_pos k3] at hX
  refine Wf F @m7.enc.eq_1 k1 k2 k3 ?_
  refine cI (a3A _ _ S W (by omega) hul) ?_
  clear S F
  intro v h hv
  obtain ⟨e, rfl⟩ := a0a hv
  have hv := a3F hv
  rw [← hX] at hv
  refine Wa ?_
  exact hK _ _ (hdrop hv)
 rw [if_neg k3] at hX
 by_cases k4 : x.c.kind = 4
 ·rw [if_pos k4] at hX
  refine Wg F @m7.enc.eq_1 k1 k2 k3 k4 ?_
  refine cI (b4k _ S W hul) ?_
  clear S F
  intro v h hv
  obtain ⟨e, rfl⟩ := a0a hv
  have hv := a3F hv
  rw [← hX] at hv
  refine Wa ?_
  exact hK _ _ (hdrop hv)
 rw [if_neg k4] at hX
 by_cases k5 : x.c.kind = 5
 ·rw [if_pos k5] at hX
  refine Wh F @m7.enc.eq_1 k1 k2 k3 k4 k5 ?_
  refine cI (a8i _ S W hul) ?_
  clear S F
  intro v h hv
  obtain ⟨e, rfl⟩ := a0a hv
  have hv := a3F hv
  rw [← hX] at hv
  refine Wa ?_
  exact hK _ _ (hdrop hv)
 rw [if_neg k5] at hX
 by_cases k6 : x.c.kind = 6
 ·rw [if_pos k6] at hX
  (try simp (disch := first|omega|assumption|exact l_a rfl) only [go_sem, ↓wBk, simprocAttr, F, m7.enc, k1, k2, k3, k4, k5, eq_true k6])
  refine cI (b3D x (fun h' S => hc _ S.tl) (fun h' S => hu _ S.tl) hD S W (by omega)) ?_
  clear S F
  intro v h hv
  obtain ⟨e, rfl⟩ := a0a hv
  have hv := a3F hv
  rw [← hX] at hv
  refine Wa ?_
  exact hK _ _ (hdrop hv)
 rw [if_neg k6] at hX
 by_cases k7 : x.c.kind = 7
 ·rw [if_pos k7] at hX
  refine Wi F @m7.enc.eq_1 k1 k2 k3 k4 k5 (Pc k6 k7) ?_
  refine cI (b7X x.c.days (fun h' S => hc _ S.tl) (fun h' S => hu _ S.tl) hD S W (by omega) hi.days) ?_
  clear S F
  intro v h hv
  obtain ⟨n, e, rfl, hv2⟩ := b9n hv
  rw [← hX] at hv2
  refine Wa ?_
  exact hK _ _ (hdrop hv2)
 rw [if_neg k7] at hX
 refine Wi F @m7.enc.eq_1 k1 k2 k3 k4 k5 (Pc k6 k7) ?_
 refine cI (b4Z x.c.key x.c.yes (fun h' S => hc _ S.tl) hD S W (by omega)) ?_
 clear S F
 intro v h hv
 obtain ⟨e, rfl⟩ := a0a hv
 have hv := a3F hv
 rw [← hX] at hv
 refine Wa ?_
 exact hK _ _ (hdrop hv)
theorem b1f (x : m7) (hs : a7l D (.slice Au U.length cu) U ∈ l) (hx : ∀ h', St h0 h' l → Arr j4 1 h' x.A x.c.us) (hxl : x.c.us.length ≤ 1000) (hi : x.c.i64) (hD : Stc D U)
  (S : St h0 h (K0 p D (.slice Au U.length cu) s :: l)) (W : s.wf U m) (hm : m < 250000) :
  d8 Tryz.prog 9 [.pointer (some ⟨p, 0, none⟩), .agg x.enc.toArray] h fun v h' => ∃ sl, v = .tuple #[.int .i64 (U7 D U s x.c).1, sl, .int .i64 (U7 D U s x.c).2.2.1] ∧
   St h0 h' (f9 Msg.enc 6 44 sl (U7 D U s x.c).2.1 :: K0 p D (.slice Au U.length cu) (U7 D U s x.c).2.2.2 :: l) := by
 have hul := hD.ul
 have hd : U7 D U s x.c = if dcd x.c.formed = false then (0, [], 1, s) else match doP D U ⟨s, []⟩ x.c with
  | .error e => (0, [], e, s)
  | .ok x => (x.1, x.2.2.sd ++ x.2.1, 0, x.2.2.s) := rfl
 generalize U7 D U s x.c = Y at *
 refine EN i9.eq_1 fun K hK => Wa ?_
 (revert S; (try clear F); refine AL fun g h S F => ?_)
 have S : St h0 h (K0 p D (.slice Au U.length cu) s :: f8 g x.enc 40 :: l) := S.p1
 ((try clear F); have F := S.fx)
 refine Wc F @m7.enc.eq_1 ?_
 refine cI (b2Z x (hx _ S.tl.tl) hxl hi) ?_
 clear F
 rintro _ h ⟨rfl, f1⟩
 have S := S.frame f1
 clear f1
 by_cases hf : x.c.formed
 case neg =>
  rw [if_pos (dF hf)] at hd
  rw [dF hf]
  refine Wa ?_
  refine hK _ _ ⟨_, by rw [hd], ?_⟩
  rw [hd]
  exact S.d1.nilS
 rw [if_neg (by rw [dT hf]; decide)] at hd
 rw [dT hf]
 refine Wa ?_
 refine cI (a7j S W hul (by omega)) ?_
 clear S
 rintro _ h ⟨q, rfl, S⟩
 obtain ⟨L, hLp, Sw⟩ := b7A S
 subst hLp
 clear S
 have S := Sw
 clear Sw
 have FN := J3 (off := 0) (n := 12) S.p2 (by simp [m7.enc])
 refine Wb @FN ?_
 clear FN
 refine cI (c0i x (fun h' S => (sAa (U := U) (A := Au) (c := cu) S (by simp [hs])).1) (fun h' S => (sAa (U := U) (A := Au) (c := cu) (D := D) S (by simp [hs])).2) (fun h' S => hx _ S.tl.tl) (fun e => ?_) hi hD S W hm) ?_
 ·have := hf.1
  rw [Cmd.fits, if_pos e] at this
  omega
 clear S
 have hwf := fun y => b9k (D := D) (U := U) (w := ⟨s, []⟩) (c := x.c) (x := y) (m := m) hul (fun e => by
  have := hf.1
  rw [Cmd.fits, if_pos e] at this
  omega)
 have hlen := fun y => b8b (D := D) (U := U) (w := ⟨s, []⟩) (c := x.c) (y := y) (m := m)
 cases hy : doP D U ⟨s, []⟩ x.c with
 | error e =>
  rw [hy] at hd
  rintro _ h ⟨he, n, sl, rfl, S⟩
  refine Wb he ?_
  refine hK _ _ ⟨_, by rw [hd], ?_⟩
  rw [hd]
  exact S.d1.nilS
 | ok y =>
  rw [hy] at hd
  have hlen := hlen _ hy W
  have W1 := hwf _ hy W
  clear hwf hy
  obtain ⟨n, ag, w1⟩ := y
  simp only at hd hlen W1
  have hsl := W1.sl
  rintro _ h ⟨A, c, sl, rfl, S⟩
  obtain ⟨sd, vs, hv, S⟩ := St.wk.1 S.p1
  have hvl : vs.length = w1.s.R.length := by rw [← hv, l_z]
  have S := S.perm (a0d _ _ _ _ _ _ _ _)
  have S : St h0 h (a1X (.slice A w1.s.R.length c) w1.s.R :: f8 L.p (n7 D (.slice Au U.length cu) L.k L.t L.o (.slice A w1.s.R.length c) sd w1.s) 84 :: t6 L.k w1.s.K :: C7 L.t w1.s.T :: A9 L.o w1.s.key w1.s.O :: f9 Msg.enc 6 44 sd w1.sd :: f9 Msg.enc 6 44 sl ag :: K0 p D (.slice Au U.length cu) s :: f8 g x.enc 40 :: l) := St.rmas.2 ⟨vs, hv, S⟩
  obtain ⟨B, e, rfl⟩ := S.p5.sl
  obtain ⟨C, f, rfl⟩ := S.p6.sl
  have F := l9 (off := 14) S.p1
  simp only [n7, l_o, l_p] at F
  refine Wb F ?_
  clear F
  refine tAp (bytes := 48) (ys := ag) enc_len (by omega) enc_plain rfl S.p5 rfl (R8 enc_len (S.p6.arr enc_len) rfl) (by omega) (by omega) ?_
  clear S
  intro sl h S
  refine Wa ?_
  refine tS S.p2 rfl rfl (l_a rfl) ?_
  clear S
  intro h S
  rw [n7] at S
  replace S := S.nm
  have FN := J3 (off := 0) (n := 15) S (by simp)
  simp only [a3L, a5D, a0t] at FN
  refine Wb @FN ?_
  clear FN
  obtain ⟨k0, t0, o0, rs0, S⟩ := St.saga.1 S.p7
  refine tS S rfl rfl (l_a rfl) ?_
  clear S
  intro h S
  rw [n7] at S
  replace S := S.nm
  refine Wa ?_
  have S := S.d1.d1.d1.d1.d1.p6.tl.p6.tl
  have S : St h0 h (f8 p (n7 D (.slice Au U.length cu) L.k L.t L.o (.slice A w1.s.R.length c) (.slice none 0 0) w1.s) 84 :: f9 Msg.enc 6 44 sl (w1.sd ++ ag) :: _) := S
  refine hK _ _ ⟨sl, by rw [hd], ?_⟩
  rw [hd]
  have S : St h0 h (K0 p D (.slice Au U.length cu) w1.s :: f9 Msg.enc 6 44 sl (w1.sd ++ ag) :: l) := St.saga.2 ⟨L.k, L.t, L.o, _, by (exact PM S) ⟩
  exact S.p1
end
end
section
set_option maxHeartbeats 8000000
theorem b7Z {h : c9} {d : Nat} {cs : List Value} (hg : a1P Tryz.prog h d 3 cs) : ∃ x : Int, cs = j4 x ∧ I64 x := by
 have hl : V2 Tryz.prog 2 3 = some [.int .i64] := by kernel_rfl
 obtain ⟨a0, _, rfl, w0, rfl⟩ := G1 2 hg hl
 exact ⟨a0, rfl, v7 w0⟩
structure m7.ok (h : c9) (x : m7) : Prop where
 us : Arr j4 1 h x.A x.c.us
 lt : x.c.us.length < 9223372036854775808
 i64 : x.c.i64
theorem b9t {h : c9} {d : Nat} {cs : List Value} (hg : a1P Tryz.prog h d 42 cs) : ∃ x : m7, cs = x.enc ∧ x.ok h := by
 have hl : V2 Tryz.prog 3 42 = some [.int .i64, .int .i64, .slice 3, .int .i64, .int .i64, .bool, .int .i64, .int .i64, .int .i64, .int .i64, .int .i64, .bool] := by kernel_rfl
 obtain ⟨a0, _, rfl, w0, a1, _, rfl, w1, v2, _, rfl, g2, a3, _, rfl, w3, a4, _, rfl, w4, b5, _, rfl, a6, _, rfl, w6, a7, _, rfl, w7, a8, _, rfl, w8, a9, _, rfl, w9, a10, _, rfl, w10, b11, _, rfl, rfl⟩ := G1 3 hg hl
 have hm : maxLen = 9223372036854775807 := rfl
 obtain ⟨A, c, us, rfl, hu, q1, q2, hw⟩ := a0P.arr (enc := j4) (sz := 1) (by kernel_rfl) (by decide) g2 b7Z
 exact ⟨⟨⟨a0, a1, us, a3, a4, b5, a6, a7, a8, a9, a10, b11⟩, A, c⟩, rfl, hu, by show us.length < _; omega, ⟨v7 w0, v7 w1, hw, v7 w3, v7 w4, v7 w6, v7 w7, v7 w8, v7 w9, v7 w10⟩⟩
section
variable {h0 h : c9} {l : List HP}
theorem a4d (x : m7) (ha : ∀ h', St h0 h' l → Arr j4 1 h' x.A x.c.us) (l1 : x.c.us.length < 1000000) (S : St h0 h l) :
  d8 Tryz.prog 10 [.agg x.enc.toArray] h fun v h' => ∃ y : m7, v = .agg y.enc.toArray ∧ y.c = x.c ∧ St h0 h' (f9 j4 1 3 (.slice y.A y.c.us.length y.n) y.c.us :: l) := by
 refine EN i10.eq_1 fun K hK => Wa ?_
 (revert S; (try clear F); refine AL fun b h S F => ?_)
 refine Wa ?_
 (revert S; (try clear F); refine AL fun g h S F => ?_)
 refine Wc F @m7.enc.eq_1 ?_
 (revert S; (try clear F); refine AL fun t h S F => ?_)
 refine Wa ?_
 (revert S; (try clear F); refine ST fun h S F => ?_)
 refine Wa ?_
 (revert S; (try clear F); refine AL fun e h S F => ?_)
 have S := S.cellOwn (enc := j4) (sz := 1) (ys := []) zEl rfl (by decide)
 ((try clear F); have F := S.fx)
 refine Wc F @m7.enc.eq_1 ?_
 refine tAp (bytes := 8) (ys := x.c.us) zEl (by omega) zEp rfl S rfl (R8 zEl (ha _ S.tl.tl.tl.tl) rfl) (by simp; omega) (by simp; omega) ?_
 clear S F
 intro v h S
 rw [l_k] at S
 obtain ⟨A, c, rfl⟩ := S.sl
 refine Wa ?_
 (revert S; (try clear F); refine ST fun h S F => ?_)
 refine Wb F ?_
 refine tS S.p2 rfl rfl (l_a rfl) ?_
 clear S F
 intro h S
 replace S := S.nm
 ((try clear F); have F := S.fx)
 refine Wb F ?_
 exact hK _ _ ⟨⟨x.c, A, c⟩, rfl, rfl, S.tl.tl.p1.tl⟩
end
theorem cArr {h : c9} {A : Option Addr} : Arr j4 1 h A [] := fun i hi => absurd hi (by simp)
def c7 : Cmd := ⟨7, 0, [], 0, 0, false, 0, 0, 0, 3, 0, false⟩
theorem b3H : c7.formed := by
 refine ⟨?_, ?_⟩
 ·unfold Cmd.fits c7 btw
  simp
 ·unfold Cmd.bare Cmd.nought c7
  simp
theorem b8w {D : Cfg} : (U7 D (l6 c0C) (z8 c0C) c7).2.2.1 = 0 ∧ (U7 D (l6 c0C) (z8 c0C) c7).2.2.2.now = 3 := by
 unfold U7
 rw [if_neg (by rw [dT b3H]; decide)]
 have : doP D (l6 c0C) ⟨z8 c0C, []⟩ c7 = (a1Y D.ss (l6 c0C) ⟨z8 c0C, []⟩ 3).map fun x => (0, x.2, x.1) := rfl
 rw [this]
 have : a1Y D.ss (l6 c0C) ⟨z8 c0C, []⟩ 3 = .ok ({ (⟨z8 c0C, []⟩ : Wk) with s := { z8 c0C with now := 3 } }, []) := rfl
 rw [this]
 exact ⟨rfl, rfl⟩
theorem b4L {C : Cfg} : (z8 C).wf (l6 C) 0 := by
 refine ⟨?_, Nat.zero_le _, fun r hr => absurd hr (by simp [z8]), b6d, fun r hr => absurd hr (by simp [z8]), Nat.zero_le _, fun r hr => absurd hr (by simp [z8]), ?_, Nat.zero_le _, ?_⟩
 ·show (P6 ((l6 C).map Unt.sku) ((l6 C).map a2j)).length = (l6 C).length
  simp [P6]
 ·exact ⟨by show (1 : Int) ≤ 1; decide, by show (1 : Int) ≤ 8589934592 + 0; decide⟩
 ·exact ⟨by show (0 : Int) ≤ 0; decide, by show (0 : Int) ≤ 100000; decide⟩
theorem b8Q {h0 h : c9} {l : List HP} {p : Nat} {D : Cfg} {u : Value} {s : Sag} (S : St h0 h (K0 p D u s :: l)) : d8 Tryz.prog 23 [.pointer (some ⟨p, 0, none⟩)] h fun v h' => v = .int .i64 s.now ∧ h' = h := by
 obtain ⟨k, t, o, rs, S⟩ := St.saga.1 S
 refine EN i23.eq_1 fun K hK => Wa ?_
 ((try clear F); have F := S.fx)
 refine Wc F @n7.eq_1 ?_
 exact hK _ _ ⟨rfl, rfl⟩
theorem a2b (h : c9) : d8 Tryz.prog 6 [] h fun v h' => v = .bool true ∧ Fr h h' [] := by
 have S := St.nil h
 refine EN i6.eq_1 fun K hK => Wa ?_
 refine cI (b1H c0C (fun h' S => ⟨Arr.nil _ _ _ _, (fun o ho => by cases ho), Arr.nil _ _ _ _, Arr.nil _ _ _ _⟩) ⟨by decide, by decide, by decide, by decide, by decide, by decide, fun o ho => by cases ho⟩ (by decide) (by decide) (by decide) (fun o ho => by cases ho) S) ?_
 clear S
 rintro _ h (⟨hn, _⟩ | ⟨_, p, D, u, rfl, hw, hp, S⟩)
 ·exact (hn b9j).elim
 obtain ⟨_, A, c, rfl, _⟩ := a7v S.p1
 have hU : l6 c0C = [] := rfl
 have hD : Stc D (l6 c0C) := ⟨a9D hp.symm b9j, (by rw [hU]; intro u hu; cases hu), (by rw [hU]; intro u hu; cases hu), by rw [hU]; exact Nat.zero_le _⟩
 refine Wa ?_
 refine cI (a4d ⟨c7, none, 0⟩ (fun h' S => cArr) (by decide) S) ?_
 clear S
 rintro _ h ⟨y, rfl, hy, S⟩
 refine Wa ?_
 have hi : y.c.i64 := by rw [hy]; exact ⟨by unfold I64 c7; decide, by unfold I64 c7; decide, fun u hu => absurd hu (by simp [c7]), by unfold I64 c7; decide, by unfold I64 c7; decide, by unfold I64 c7; decide, by unfold I64 c7; decide, by unfold I64 c7; decide, by unfold I64 c7; decide, by unfold I64 c7; decide⟩
 refine cI (b1f y (cu := c) (Au := A) (U := l6 c0C) (by simp) (fun h' S => by rw [hy]; exact cArr) (by rw [hy]; decide) hi hD S.p1 b4L (by decide)) ?_
 clear S
 rintro _ h ⟨sl, rfl, S⟩
 rw [hy] at S ⊢
 obtain ⟨t1, t2⟩ := b8w (D := D)
 generalize U7 D (l6 c0C) (z8 c0C) c7 = Y at *
 refine Wb t1 ?_
 refine cI (b8Q S.p1) ?_
 rintro _ h ⟨rfl, rfl⟩
 rw [t2]
 refine Wa ?_
 exact hK _ _ ⟨rfl, S.fr⟩
end
section
set_option maxHeartbeats 8000000
def fewS (C : Cfg) (xs : List m7) (n : Nat) : Prop := xs.length ≤ n ∧ (∀ x ∈ xs, x.c.us.length ≤ 100) ∧ c0m C
theorem b7I {h0 : c9} {A : Option Addr} {c : Nat} (C : Cfg) (xs : List m7) (n : Nat) (hn : n < 1000) (hl : xs.length < 9223372036854775808) (r : C.rd h0) (w : C.wf) (ha : Arr m7.enc 12 h0 A xs) :
  d8 Tryz.prog 7 [.agg C.enc.toArray, .slice A xs.length c, .int .i64 n] h0 fun v h' => v = .bool (dcd (fewS C xs n)) ∧ Fr h0 h' [] := by
 have S := St.nil h0
 refine EN i7.eq_1 fun K hK => Wa ?_
 (revert S; (try clear F); refine AL fun g h S F => ?_)
 refine Wa ?_
 refine lI (fun ρ h' => ρ 1 = .slice A xs.length c ∧ ρ 2 = .int .i64 n ∧ ρ 3 = .pointer (some ⟨g, 0, none⟩) ∧ ρ 9 = .int .i64 xs.length ∧ ∃ i : Nat, ρ 10 = .int .i64 i ∧ i ≤ xs.length ∧ i ≤ n ∧ (∀ x ∈ xs.take i, x.c.us.length ≤ 100) ∧ St h0 h' [f8 g C.enc 26]) (fun ρ _ => xs.length - (iv (ρ 10)).toNat) ?_ ?_
 ·refine Wa ?_
  exact ⟨0, rfl, by omega, by omega, fun x hx => absurd hx (by simp), S⟩
 clear S F
 rintro ρ h J hJ ⟨e1, e2, e3, e9, i, e10, hi, hin, hp, S⟩
 ((try clear F); have F := S.fx)
 refine Wc e9 e10 ?_
 refine cD (fun hlt => ?_) (fun hlt => ?_)
 ·have hil : i < xs.length := by omega
  by_cases h1 : (n : Int) ≤ i
  ·refine Wd e2 e10 h1 ?_
   exact hK _ _ ⟨by rw [dF (fun h => by have := h.1; omega)], S.fr⟩
  obtain ⟨b, o, rfl, q⟩ := (ha.fr S.fr (by simp)).at hil
  have q := rP q 2 (by omega)
  simp only [m7.enc, l_o, l_p] at q
  by_cases h2 : (100 : Int) < (xs[i].c.us.length : Int)
  ·refine Wg e1 e2 e10 h1 q h2 ?_
   exact hK _ _ ⟨by rw [dF (fun h => by have := h.2.1 _ (l_v hil); omega)], S.fr⟩
  refine Wg e1 e2 e10 h1 q h2 ?_
  refine hJ _ _ ?_ ?_
  ·refine We e1 e2 e3 e9 ?_
   refine ⟨i + 1, rfl, by omega, by omega, fun x hx => ?_, S⟩
   rw [l_t hil] at hx
   rcases List.mem_append.1 hx with hx | hx
   ·exact hp x hx
   ·rw [List.mem_singleton.1 hx]; omega
  ·refine Wb e10 ?_
   omega
 obtain rfl : i = xs.length := by omega
 rw [E8] at hp
 refine Wc e3 F ?_
 refine cI (c0u C (r.fr S.fr) w) ?_
 rintro _ h ⟨rfl, f1⟩
 refine Wa ?_
 exact hK _ _ ⟨congrArg _ (by
  by_cases hf : c0m C
  ·rw [dT hf, dT ⟨hin, hp, hf⟩]
  ·rw [dF hf, dF (fun h => hf h.2.2)]), (S.frame f1).fr⟩
end
section
set_option maxHeartbeats 32000000
theorem St.gen {h0 h : c9} {l : List HP} {P : Prop} (S : St h0 h l) (k : ∀ L, L = l → St h0 h L → P) : P := k l rfl S
section
variable {D : Cfg} {U : List Unt} {w : Wk} {m : Nat}
theorem b1u : ∀ {R : List Ret}, (∀ r ∈ R, - O7 r + M3 r + r.paid + r.credd + r.given = 0) → - H4 O7 R + H4 M3 R + H4 Ret.paid R + H4 Ret.credd R + H4 Ret.given R = 0
 | [], _ => rfl
 | x :: R, h => by
  have h1 := b1u (R := R) fun r hr => h r (by simp [hr])
  have h2 := h x (by simp)
  simp only [H4, G0, F3] at h1 ⊢
  omega
structure b7n (D : Cfg) (U : List Unt) (r : Ret) : Prop where
 worth : r.worth = F6 D.ps U r
 le : 0 ≤ r.worth ∧ r.worth ≤ 858993459200
 pos : 0 ≤ r.paid ∧ 0 ≤ r.credd ∧ 0 ≤ r.given
 told : r.paid + r.credd + r.given ≤ r.worth
 done : r.state = 6 → r.paid + r.credd + r.given = r.worth
 none : r.state ≠ 5 → r.state ≠ 6 → r.paid + r.credd + r.given = 0
 rea : isR r.rea
 us : K2 r.us r.gs
 inn : ∀ v ∈ r.us, v < U.length ∧ 0 ≤ (l7 U v).ord
theorem b1r (hD : Stc D U) (I : Inv D U w 1000 0) (W : w.wf U m) : ∀ r ∈ w.s.R, b7n D U r := fun r hr => by
 obtain ⟨i, hi, rfl⟩ := a0q hr
 have e : w.s.R[i] = w.R i := by unfold Wk.R; rw [l_s, l_r hi]; rfl
 rw [e]
 have hI := I.ret i hi
 have hok := W.rr _ (E3 hi)
 have hw := M5 hD hI (W.len _ (E3 hi))
 have hrl := W.rl
 have hn := hI.nil
 unfold tol at hn
 refine ⟨hI.worth, hw, hI.pos, ?_, fun h6 => ?_, hn, hI.rea, hok.1, fun v hv => ⟨hok.2 v hv, by rw [hI.uo v hv]; exact hI.ord.1⟩⟩
 ·by_cases hf : fin (w.R i)
  ·have := a5A hD I (by omega) hi hf
   split at this <;> omega
  ·have := hn (fun h => hf (.inl h)) (fun h => hf (.inr h))
   omega
 ·have h1 := I.mon i hi (.inr h6)
  have h2 := (I.cl i hi h6).1
  unfold n8 at h2
  rw [List.length_eq_zero_iff, List.filter_eq_nil_iff] at h2
  rw [a2W fun x hx hr => by have := h2 x hx; simp only [decide_eq_true_eq] at this; omega, if_neg (by omega)] at h1
  unfold tol at h1
  omega
theorem b8e (hD : Stc D U) (I : Inv D U w 1000 0) (W : w.wf U m) : w.s.led.a + w.s.led.b + w.s.led.c + w.s.led.d + w.s.led.e = 0 := by
 obtain ⟨a1, a2, a3, a4, a5⟩ := I.led
 have := b1u (R := w.s.R) fun r hr => by
  have h := b1r hD I W r hr
  have h1 := h.none
  unfold O7 M3 tol
  by_cases hf : fin r
  ·rw [if_pos hf, if_pos hf]
   omega
  ·rw [if_neg hf, if_neg hf]
   have := h1 (fun e => hf (.inl e)) (fun e => hf (.inr e))
   omega
 omega
def N6 (r : Ret) : Int := if r.state = 5 then r.worth - (r.paid + r.credd + r.given) else 0
theorem b7U {R : List Ret} (h : ∀ r ∈ R, b7n D U r) : H4 M3 R = H4 N6 R := by
 unfold H4
 congr 1
 refine List.map_congr_left fun r hr => ?_
 have h1 := (h r hr).done
 unfold M3 N6 tol
 by_cases h5 : r.state = 5
 ·rw [if_pos (show fin r from .inl h5), if_pos h5]
 ·rw [if_neg h5]
  by_cases hf : fin r
  ·rw [if_pos hf]
   have := h1 (hf.resolve_left h5)
   omega
  ·rw [if_neg hf]
theorem b2Q {R : List Ret} {i : Nat} (hi : i < R.length) : H4 N6 (R.take (i + 1)) = H4 N6 (R.take i) + N6 R[i] := by
 unfold H4
 rw [l_t hi, N5, a0o]
 simp
theorem b6w {R : List Ret} (h : ∀ r ∈ R, b7n D U r) : 0 ≤ H4 N6 R ∧ H4 N6 R ≤ 858993459200 * R.length := by
 have := a7o (f := N6) (a := 0) (b := 858993459200) fun r hr => by
  have h1 := h r hr
  have := h1.le
  have := h1.pos
  have := h1.told
  unfold N6
  split <;> omega
 omega
end
theorem a8w (C : Cfg) (A : Option Addr) (c : Nat) (xs : List m7) (h0 : c9) (hC : C.ok h0) (ha : Arr m7.enc 12 h0 A xs) (hl : xs.length ≤ c) (hcm : c ≤ maxLen) (hx : ∀ x ∈ xs, x.ok h0) :
  d8 Tryz.prog 4 [.agg C.enc.toArray, .slice A xs.length c] h0 fun v h' => v = .bool true ∧ Fr h0 h' [] := by
 have hm : maxLen = 9223372036854775807 := rfl
 obtain ⟨r, w⟩ := hC
 have S := St.nil h0
 have r' : ∀ {l : List HP} (h' : c9), St h0 h' l → C.rd h' := fun h' S => r.fr S.fr
 refine EN i4.eq_1 fun K hK => Wa ?_
 (revert S; (try clear F); refine AL fun g h S F => ?_)
 refine Wa ?_
 refine cF S (a2b _) fun h S => ?_
 ((try clear F); have F := S.fx)
 refine Wb F ?_
 refine cF S (b7I C xs 80 (by omega) (by omega) (r' _ S) w (ha.fr S.fr (by simp))) fun h S => ?_
 by_cases hf : fewS C xs 80
 case neg =>
  rw [dF hf]
  refine Wa ?_
  refine cF S (a2b _) fun h S => ?_
  refine Wa ?_
  exact hK _ _ ⟨rfl, S.fr⟩
 rw [dT hf]
 ((try clear F); have F := S.fx)
 refine Wb F ?_
 obtain ⟨hxl, hxu, f1, f2, f3, f4⟩ := hf
 have f4' : ∀ o ∈ C.os, o.ls.length < 1000000 := fun o ho => by have := f4 o ho; omega
 refine cF S (a5s C (r' _ S) (by omega) (by omega) (by omega) f4') fun h S => ?_
 by_cases hok : C8 C
 case neg =>
  rw [dF hok]
  refine Wa ?_
  refine cF S (a2b _) fun h S => ?_
  refine Wa ?_
  exact hK _ _ ⟨rfl, S.fr⟩
 rw [dT hok]
 ((try clear F); have F := S.fx)
 refine Wb F ?_
 refine cI (b1H C (fun h' S => r' h' S) w (by omega) (by omega) (by omega) f4' S) ?_
 clear S F
 rintro _ h (⟨hn, _⟩ | ⟨_, p, D, u, rfl, hw, hp, S⟩)
 ·exact (hn hok).elim
 obtain ⟨_, Au, cu, rfl, _⟩ := a7v S.p1
 have hD := b8E hp hok
 have W0 : (z8 C).wf (l6 C) 0 := b4L
 have I0 := b7R hD
 have S := S.p2
 ((try clear F); have F := S.fx)
 refine Wb F ?_
 refine cI (b2e C (fun h' S => r' h' S) hok S) ?_
 clear S F
 intro v h S
 obtain ⟨U, hU⟩ : ∃ U, U = l6 C := ⟨_, rfl⟩
 rw [← hU] at S hD W0 I0
 have hul := hD.ul
 generalize z8 C = s at *
 obtain ⟨Bu, du, rfl⟩ := S.sl
 refine Wa ?_
 refine lI (fun ρ h' => ρ 1 = .slice A xs.length c ∧ ρ 2 = .pointer (some ⟨g, 0, none⟩) ∧ ρ 5 = .pointer (some ⟨p, 0, none⟩) ∧ ρ 7 = .slice Bu U.length du ∧ ρ 37 = .int .i64 xs.length ∧ ∃ i : Nat, ρ 38 = .int .i64 i ∧ i ≤ xs.length ∧ ∃ s : Sag, s.wf U (i * 201) ∧ Inv D U ⟨s, []⟩ 1000 0 ∧
  St h0 h' (K0 p D (.slice Au U.length cu) s :: a7l D (.slice Au U.length cu) U :: f9 Unt.enc 4 67 (.slice Bu U.length du) U :: [f8 g C.enc 26])) (fun ρ _ => xs.length - (iv (ρ 38)).toNat) ?_ ?_
 ·refine Wa ?_
  exact ⟨0, rfl, by omega, s, by simpa using W0, I0, by (exact PM S) ⟩
 clear S I0 W0
 rintro ρ h J hJ ⟨e1, e2, e5, e7, e37, i, e38, hi, s, W, I, S⟩
 refine Wc e37 e38 ?_
 refine cD (fun hlt => ?_) (fun hlt => ?_)
 rotate_left
 ·refine Wa ?_
  exact hK _ _ ⟨rfl, S.fr⟩
 have hil : i < xs.length := by omega
 have hxi := hx _ (l_v hil)
 have hui := hxu _ (l_v hil)
 obtain ⟨b, o, rfl, q⟩ := (ha.fr S.fr (by simp)).at hil
 generalize xs[i] = x at *
 refine We e1 e5 e38 q ?_
 refine cI (a4d x (fun h' S => hxi.us.fr S.fr (by simp)) (by omega) S) ?_
 clear S q
 rintro _ h ⟨y, rfl, hy, S⟩
 have hyi : y.c.i64 := by rw [hy]; exact hxi.i64
 refine Wa ?_
 refine cI (b1f y (Au := Au) (cu := cu) (U := U) (l := f9 j4 1 3 (.slice y.A y.c.us.length y.n) y.c.us :: a7l D (.slice Au U.length cu) U :: f9 Unt.enc 4 67 (.slice Bu U.length du) U :: [f8 g C.enc 26]) (by simp) (fun h' S => S.arr zEl) (by rw [hy]; omega) hyi hD (by (exact PM S) ) W (by omega)) ?_
 clear S
 rintro _ h ⟨sl, rfl, S⟩
 have W1 := b8k (D := D) (c := y.c) hD.ul W
 have I1 := b5O (c := y.c) hD I W
 generalize (U7 D U s y.c).2.2.2 = s' at *
 have S := S.tl.d1
 have hkl : s'.K.length = U.length := W1.kl
 have hrl : s'.R.length ≤ 100 := W1.rl
 have hDps : D.ps = C.ps := (congrArg Prod.fst hp : _)
 have hrow := b1r hD I1 W1
 have hls := b8e hD I1 W1
 have hlb := a7F hD I1 (by omega) W1
 have b0 := hlb 0
 have b1 := hlb 1
 have b2 := hlb 2
 have b3 := hlb 3
 have b4 := hlb 4
 simp [Led.get] at b0 b1 b2 b3 b4
 have hbe := I1.led.b
 rw [b7U hrow] at hbe
 simp only at hls hbe hrow
 refine Wb e5 ?_
 refine cI (b2z S) ?_
 clear S
 rintro _ h ⟨rfl, S⟩
 refine Wa ?_
 (revert S; (try clear F); refine AL fun g2 h S F => ?_)
 refine Wa ?_
 (revert S; (try clear F); refine ST fun h S F => ?_)
 have hz : s'.led.a + s'.led.b + s'.led.c + s'.led.d + s'.led.e = 0 := hls
 refine Wc F hz ?_
 have S := S.p1
 refine Wb e5 ?_
 refine cI (b1q S (by omega) (fun r hr => by have := Wk.wf.len W1 r hr; omega)) ?_
 clear S F
 intro v h S
 obtain ⟨vs, hvs, S⟩ := St.rmas.1 S
 have hvl : vs.length = s'.R.length := by rw [← hvs, l_z]
 obtain ⟨Bv, dv, rfl⟩ := S.sl
 have hend : ∀ ρ' h, ρ' 1 = .slice (some ⟨b, o, none⟩) xs.length c → ρ' 2 = .pointer (some ⟨g, 0, none⟩) → ρ' 5 = .pointer (some ⟨p, 0, none⟩) → ρ' 7 = .slice Bu U.length du → ρ' 37 = .int .i64 xs.length → ρ' 38 = .int .i64 (i + 1) →
   St h0 h (f9 j0.enc 14 59 (.slice Bv vs.length dv) vs :: (vs.map j7 ++ (K0 p D (.slice Au U.length cu) s' :: f8 g2 [.int .i64 s'.led.a, .int .i64 s'.led.b, .int .i64 s'.led.c, .int .i64 s'.led.d, .int .i64 s'.led.e] 51 :: a7l D (.slice Au U.length cu) U :: f9 Unt.enc 4 67 (.slice Bu U.length du) U :: [f8 g C.enc 26]))) → J ρ' h := by
  intro ρ' h d1 d2 d5 d7 d37 d38 S
  refine hJ _ _ ?_ ?_
  ·exact ⟨d1, d2, d5, d7, d37, i + 1, d38, by omega, s', by rw [show (i + 1) * 201 = i * 201 + 201 by omega]; exact W1, I1, S.tl.dropL.d1⟩
  ·refine Wc d38 e38 ?_
   omega
 refine S.gen fun L hL S => ?_
 rw [← hL] at hend
 have hF : ∀ {h' : c9}, St h0 h' L → _ := fun {h'} (S : St h0 h' L) => (show St h0 h' (f8 g2 [.int .i64 s'.led.a, .int .i64 s'.led.b, .int .i64 s'.led.c, .int .i64 s'.led.d, .int .i64 s'.led.e] 51 :: f8 g C.enc 26 :: []) by rw [hL] at S; exact S.tl.dropL.tl.d1.d1).fx
 refine Wa ?_
 refine lI (fun ρ h' => ρ 1 = .slice (some ⟨b, o, none⟩) xs.length c ∧ ρ 2 = .pointer (some ⟨g, 0, none⟩) ∧ ρ 5 = .pointer (some ⟨p, 0, none⟩) ∧ ρ 7 = .slice Bu U.length du ∧ ρ 9 = .pointer (some ⟨g2, 0, none⟩) ∧ ρ 10 = .slice Bv vs.length dv ∧ ρ 37 = .int .i64 xs.length ∧ ρ 38 = .int .i64 i ∧ ρ 69 = .int .i64 vs.length ∧ ∃ n : Nat, ρ 70 = .int .i64 n ∧ n ≤ vs.length ∧ ρ 11 = .int .i64 (H4 N6 (s'.R.take n)) ∧ St h0 h' L) (fun ρ _ => vs.length - (iv (ρ 70)).toNat) ?_ ?_
 ·refine Wg e1 e2 e5 e7 e37 e38 ?_
  exact ⟨0, rfl, by omega, rfl, S⟩
 have o38 := e38
 clear S e1 e2 e5 e7 e37 e38
 rintro ρ h J2 hJ2 ⟨e1, e2, e5, e7, e9, e10, e37, e38, e69, n, e70, hn, e11, S⟩
 refine Wc e69 e70 ?_
 refine cD (fun hlt2 => ?_) (fun hlt2 => ?_)
 rotate_left
 ·obtain rfl : n = vs.length := by omega
  rw [hvl, E8, ← hbe] at e11
  have F := hF S
  refine We e9 e11 e38 F ?_
  refine hend _ _ ?_ ?_ ?_ ?_ ?_ ?_ S <;> ((refine Wf e1 e2 e5 e7 e37 ?_); trivial)
 have hnl : n < vs.length := by omega
 have hmem := l_v hnl
 have hnR : n < s'.R.length := by omega
 have hRn : s'.R[n] = vs[n].r := by simp only [← hvs, W4]
 have hsn := b2Q hnR
 rw [hRn] at hsn
 have hob := b6w (R := s'.R.take n) fun r hr => hrow r (a0S hr)
 rw [u6] at hob
 have hro : b7n D U vs[n].r := hrow _ (by rw [← hvs]; exact a3r hmem)
 have hin : ∀ {h' : c9}, St h0 h' L → Arr j4 1 h' vs[n].A vs[n].r.us ∧ Arr j4 1 h' vs[n].B vs[n].r.gs := fun S => O1 S (by rw [hL]; simp only [l_e, l_y]; exact .inr (.inl (a3r hmem)))
 have hq : ∀ {h' : c9}, St h0 h' L → ∃ b3 o3, Bv = some ⟨b3, o3, none⟩ ∧ rdN h' b3 (o3 + n * 14) 14 = some vs[n].enc := fun S => by rw [hL] at S; exact (S.arr j0.enc_len).at hnl
 generalize vs[n] = z at *
 obtain ⟨b5, o5, hB5, q5⟩ := hq S
 have hq2 : ∀ {h' : c9}, St h0 h' L → rdN h' b5 (o5 + n * 14) 14 = some z.enc := fun S => by obtain ⟨_, _, e, q⟩ := hq S; rw [hB5] at e; cases e; exact q
 have F := hF S
 refine Wa ?_
 refine dE ?_
 refine Wh e2 e7 e10 e70 hB5 F q5 ?_
 have hw : F6 C.ps U z.r = z.r.worth := by rw [← hDps]; exact hro.worth.symm
 refine cV (b2T C (by rw [← hDps]; exact hD.cfg.1) hD.sh (l := L) z (fun h' S => r' h' S) (fun h' S => by rw [hL] at S; exact S.tl.dropL.p3.arr Unt.enc_len) hul (fun h' S => (hin S).1) (fun h' S => (hin S).2) hro.us hro.rea (fun v hv => ⟨(hro.inn v hv).1, by
  obtain ⟨v1, v2⟩ := hro.inn v hv
  have v0 : 0 ≤ v := by
   obtain ⟨kk, hkk, rfl⟩ := a0q hv
   have := (hro.us.2.2 kk hkk).1.1
   rwa [m8 hkk] at this
  have hu : l7 U v ∈ U := by
   have : v.toNat < U.length := by omega
   unfold l7
   rw [l_s, l_r this]
   exact l_v this
  exact ⟨hD.cat _ hu, by rw [hU] at hu v2 ⊢; exact b4w hok _ hu v2⟩⟩) S) fun h S => ?_
 rw [hw]
 clear q5 F
 have q5 := hq2 S
 have z6 := rP q5 6 (by omega)
 have z10 := rP q5 10 (by omega)
 have z11 := rP q5 11 (by omega)
 have z12 := rP q5 12 (by omega)
 have z13 := rP q5 13 (by omega)
 simp only [j0.enc, l_o, l_p] at z6 z10 z11 z12 z13
 obtain ⟨_, c1, c2, c3, c4, _, _, _, _⟩ := hro
 refine Wa ?_
 refine dE ?_
 have hgo : ∀ ρ' h, ρ' 1 = .slice (some ⟨b, o, none⟩) xs.length c → ρ' 2 = .pointer (some ⟨g, 0, none⟩) → ρ' 5 = .pointer (some ⟨p, 0, none⟩) → ρ' 7 = .slice Bu U.length du → ρ' 9 = .pointer (some ⟨g2, 0, none⟩) → ρ' 10 = .slice Bv vs.length dv → ρ' 37 = .int .i64 xs.length → ρ' 38 = .int .i64 i → ρ' 69 = .int .i64 vs.length → ρ' 70 = .int .i64 (n + 1) → ρ' 11 = .int .i64 (H4 N6 (s'.R.take n) + N6 z.r) → St h0 h L → J2 ρ' h := by
  intro ρ' h d1 d2 d5 d7 d9 d10 d37 d38 d69 d70 d11 S
  refine hJ2 _ _ ⟨d1, d2, d5, d7, d9, d10, d37, d38, d69, n + 1, d70, by omega, by rw [d11, hsn], S⟩ ?_
  refine Wc d70 e70 ?_
  omega
 have c5 : ¬ z.r.worth < z.r.paid + z.r.credd + z.r.given := by omega
 by_cases k6 : z.r.state = 6
 ·have c6 := c4 k6
  have ho : N6 z.r = 0 := by unfold N6; rw [if_neg (by omega)]
  rw [ho, Int.add_zero] at hgo
  have k5 : ¬ z.r.state = 5 := by omega
  refine Wi e10 e70 hB5 z6 z10 z11 z12 (Pe z13 c5 c6 k6) ?_
  refine hgo _ _ ?_ ?_ ?_ ?_ ?_ ?_ ?_ ?_ ?_ ?_ ?_ S <;> ((refine Wi e1 e2 e5 e7 e9 e10 e11 (Pd e37 e38 e69) ?_); trivial)
 by_cases k5 : z.r.state = 5
 ·have ho : N6 z.r = z.r.worth - (z.r.paid + z.r.credd + z.r.given) := by unfold N6; rw [if_pos k5]
  rw [ho] at hgo
  refine Wi e10 e11 e70 hB5 z6 z10 z11 (Pe z12 z13 c5 k5) ?_
  refine hgo _ _ ?_ ?_ ?_ ?_ ?_ ?_ ?_ ?_ ?_ ?_ ?_ S <;> ((refine Wi e1 e2 e5 e7 e9 e10 e11 (Pe e37 e38 e69 @Int.add_sub_assoc) ?_); trivial)
 ·have ho : N6 z.r = 0 := by unfold N6; rw [if_neg k5]
  rw [ho, Int.add_zero] at hgo
  refine Wi e10 e70 hB5 z6 z10 z11 z12 (Pe z13 c5 k5 k6) ?_
  refine hgo _ _ ?_ ?_ ?_ ?_ ?_ ?_ ?_ ?_ ?_ ?_ ?_ S <;> ((refine Wi e1 e2 e5 e7 e9 e10 e11 (Pd e37 e38 e69) ?_); trivial)
end
end Go.Proofs.YtcgbhcgfdcfmaaaGreat.MX
