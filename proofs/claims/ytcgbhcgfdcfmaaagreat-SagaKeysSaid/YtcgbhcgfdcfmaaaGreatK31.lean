import Derived.Test.YtcgbhcgfdcfmaaaGreatK30
import Derived.Test.YtcgbhcgfdcfmaaaGreatK22
import Derived.Test.YtcgbhcgfdcfmaaaGreatK20
import Derived.Test.YtcgbhcgfdcfmaaaGreatK23
import Derived.Test.YtcgbhcgfdcfmaaaGreatK24
namespace Go.Proofs.YtcgbhcgfdcfmaaaGreat.MX
open Go Go.Proofs
set_option linter.unusedSimpArgs false
set_option linter.unusedVariables false
section
set_option maxHeartbeats 8000000
def resD (h0 : Heap) (L : Loc) (D : Cfg) (u : Value) (l : List HP) (x : Except Int (Int × List Msg × Wk)) (v : Value) (h' : Heap) : Prop := match x with
 | .error e => e ≠ 0 ∧ ∃ (n : Int) (sl : Value), v = .tuple #[.int .i64 n, sl, .int .i64 e] ∧ St h0 h' l
 | .ok y => ∃ A c sl, v = .tuple #[.int .i64 y.1, sl, .int .i64 0] ∧ St h0 h' (ownA Msg.enc 6 44 sl y.2.1 :: wkA { L with A := A, c := c } D u y.2.2 :: l)
section
variable {h0 h : Heap} {l : List HP} {p : Nat} {D : Cfg} {u : Value} {s : Sag} {U : List Unt} {m : Nat} {w : Wk} {L : Loc} {Au : Option Addr} {cu : Nat}
theorem resE_D {x : Except Int Wk} {v : Value} (hv : resE h0 L D u l x v h) : resD h0 L D u l (x.map fun w => (0, [], w)) (.tuple #[.int .i64 0, .slice none 0 0, v]) h := by
 cases x with
 | error e =>
  obtain ⟨he, rfl, S⟩ := hv
  exact ⟨he, 0, _, rfl, S⟩
 | ok w =>
  obtain ⟨rfl, S⟩ := hv
  exact ⟨L.A, L.c, _, rfl, S.nilS⟩
theorem resE_int {x : Except Int Wk} {v : Value} (hv : resE h0 L D u l x v h) : ∃ n, v = .int .i64 n := by
 cases x with
 | error e => exact ⟨_, hv.2.1⟩
 | ok w => exact ⟨_, hv.1⟩
theorem resT_D {x : Except Int (Wk × List Msg)} {v : Value} (hv : resT h0 L D u l x v h) : ∃ (s : Value) (e : Int), v = .tuple #[s, .int .i64 e] ∧ resD h0 L D u l (x.map fun x => (0, x.2, x.1)) (.tuple #[.int .i64 0, s, .int .i64 e]) h := by
 cases x with
 | error e =>
  obtain ⟨he, rfl, S⟩ := hv
  exact ⟨_, _, rfl, he, 0, _, rfl, S⟩
 | ok w =>
  obtain ⟨s, rfl, S⟩ := hv
  exact ⟨_, _, rfl, L.A, L.c, _, rfl, S.p1⟩
theorem resQ_D {x : Except Int (Int × Wk)} {v : Value} (hv : resQ h0 L D u l x v h) : ∃ (n e : Int), v = .tuple #[.int .i64 n, .int .i64 e] ∧ resD h0 L D u l (x.map fun x => (x.1, [], x.2)) (.tuple #[.int .i64 n, .slice none 0 0, .int .i64 e]) h := by
 cases x with
 | error e =>
  obtain ⟨he, rfl, S⟩ := hv
  exact ⟨_, _, rfl, he, 0, _, rfl, S⟩
 | ok w =>
  obtain ⟨rfl, A, c, S⟩ := hv
  exact ⟨_, _, rfl, A, c, _, rfl, S.nilS⟩
theorem doP_len {c : Cmd} {y : Int × List Msg × Wk} (h : doP D U w c = .ok y) (W : w.wf U m) : y.2.1.length ≤ 70000 + m + 200 := by
 unfold doP at h
 split at h
 ·obtain ⟨z, _, rfl⟩ := map_ok h; exact Nat.zero_le _
 split at h
 ·obtain ⟨z, _, rfl⟩ := map_ok h; exact Nat.zero_le _
 split at h
 ·obtain ⟨z, _, rfl⟩ := map_ok h; exact Nat.zero_le _
 split at h
 ·obtain ⟨z, _, rfl⟩ := map_ok h; exact Nat.zero_le _
 split at h
 ·obtain ⟨z, _, rfl⟩ := map_ok h; exact Nat.zero_le _
 split at h
 ·obtain ⟨z, _, rfl⟩ := map_ok h; exact Nat.zero_le _
 split at h
 ·obtain ⟨z, hz, rfl⟩ := map_ok h; exact (tick_wf hz W).2.2
 ·obtain ⟨z, _, rfl⟩ := map_ok h; exact Nat.zero_le _
theorem sdo_ok (x : CmdV) (hc : ∀ h', St h0 h' l → D.rd h') (hu : ∀ h', St h0 h' l → Arr Unt.enc 4 h' Au U) (hx : ∀ h', St h0 h' l → Arr zEnc 1 h' x.A x.c.us) (hxl : x.c.kind = 1 → 1 ≤ x.c.us.length ∧ x.c.us.length ≤ 200) (hi : x.c.i64) (hD : Stc D U)
  (S : St h0 h (wkA L D (.slice Au U.length cu) w :: l)) (W : w.wf U m) (hm : m < 250000) :
  CallsH Tryz.prog 31 [.pointer (some ⟨L.p, 0, none⟩), .agg x.enc.toArray] h fun v h' => resD h0 L D (.slice Au U.length cu) l (doP D U w x.c) v h' := by
 have hul := hD.ul
 obtain ⟨X, hX⟩ : ∃ X, X = doP D U w x.c := ⟨_, rfl⟩
 rw [← hX]
 unfold doP at hX
 refine EN i31.eq_1 fun K hK => Wa ?_
 (revert S; (try clear F); refine AL fun g h S F => ?_)
 have S : St h0 h (wkA L D (.slice Au U.length cu) w :: cellA g x.enc 40 :: l) := S.p1
 have hdrop : ∀ {L : Loc} {v : Value} {h' : Heap}, resD h0 L D (.slice Au U.length cu) (cellA g x.enc 40 :: l) X v h' → resD h0 L D (.slice Au U.length cu) l X v h' := fun {L v h'} hv => by
  cases X with
  | error e => obtain ⟨he, n, sl, rfl, S⟩ := hv; exact ⟨he, n, sl, rfl, S.tl⟩
  | ok y => obtain ⟨A, c, sl, rfl, S⟩ := hv; exact ⟨A, c, sl, rfl, S.p2.tl⟩
 ((try clear F); have F := S.fx)
 by_cases k1 : x.c.kind = 1
 ·rw [if_pos k1] at hX
  (try simp (disch := first|omega|assumption|exact l_a rfl) only [go_sem, ↓wBk, simprocAttr, F, CmdV.enc, eq_true k1])
  refine cI (request_ok x (fun h' S => hc _ S.tl) (fun h' S => hu _ S.tl) (fun h' S => hx _ S.tl) (hxl k1) hD S W (by omega)) ?_
  clear S F
  intro v h hv
  obtain ⟨n, e, rfl, hv2⟩ := resQ_D hv
  rw [← hX] at hv2
  refine Wa ?_
  exact hK _ _ (hdrop hv2)
 rw [if_neg k1] at hX
 by_cases k2 : x.c.kind = 2
 ·rw [if_pos k2] at hX
  refine We F @CmdV.enc.eq_1 k1 k2 ?_
  refine cI (end_ok _ _ S W (by omega) hul) ?_
  clear S F
  intro v h hv
  obtain ⟨e, rfl⟩ := resE_int hv
  have hv := resE_D hv
  rw [← hX] at hv
  refine Wa ?_
  exact hK _ _ (hdrop hv)
 rw [if_neg k2] at hX
 by_cases k3 : x.c.kind = 3
 ·rw [if_pos k3] at hX
  refine Wf F @CmdV.enc.eq_1 k1 k2 k3 ?_
  refine cI (end_ok _ _ S W (by omega) hul) ?_
  clear S F
  intro v h hv
  obtain ⟨e, rfl⟩ := resE_int hv
  have hv := resE_D hv
  rw [← hX] at hv
  refine Wa ?_
  exact hK _ _ (hdrop hv)
 rw [if_neg k3] at hX
 by_cases k4 : x.c.kind = 4
 ·rw [if_pos k4] at hX
  refine Wg F @CmdV.enc.eq_1 k1 k2 k3 k4 ?_
  refine cI (spick_ok _ S W hul) ?_
  clear S F
  intro v h hv
  obtain ⟨e, rfl⟩ := resE_int hv
  have hv := resE_D hv
  rw [← hX] at hv
  refine Wa ?_
  exact hK _ _ (hdrop hv)
 rw [if_neg k4] at hX
 by_cases k5 : x.c.kind = 5
 ·rw [if_pos k5] at hX
  refine Wh F @CmdV.enc.eq_1 k1 k2 k3 k4 k5 ?_
  refine cI (sreceive_ok _ S W hul) ?_
  clear S F
  intro v h hv
  obtain ⟨e, rfl⟩ := resE_int hv
  have hv := resE_D hv
  rw [← hX] at hv
  refine Wa ?_
  exact hK _ _ (hdrop hv)
 rw [if_neg k5] at hX
 by_cases k6 : x.c.kind = 6
 ·rw [if_pos k6] at hX
  (try simp (disch := first|omega|assumption|exact l_a rfl) only [go_sem, ↓wBk, simprocAttr, F, CmdV.enc, k1, k2, k3, k4, k5, eq_true k6])
  refine cI (grade_okS x (fun h' S => hc _ S.tl) (fun h' S => hu _ S.tl) hD S W (by omega)) ?_
  clear S F
  intro v h hv
  obtain ⟨e, rfl⟩ := resE_int hv
  have hv := resE_D hv
  rw [← hX] at hv
  refine Wa ?_
  exact hK _ _ (hdrop hv)
 rw [if_neg k6] at hX
 by_cases k7 : x.c.kind = 7
 ·rw [if_pos k7] at hX
  refine Wi F @CmdV.enc.eq_1 k1 k2 k3 k4 k5 (Pc k6 k7) ?_
  refine cI (tick_ok x.c.days (fun h' S => hc _ S.tl) (fun h' S => hu _ S.tl) hD S W (by omega) hi.days) ?_
  clear S F
  intro v h hv
  obtain ⟨n, e, rfl, hv2⟩ := resT_D hv
  rw [← hX] at hv2
  refine Wa ?_
  exact hK _ _ (hdrop hv2)
 rw [if_neg k7] at hX
 refine Wi F @CmdV.enc.eq_1 k1 k2 k3 k4 k5 (Pc k6 k7) ?_
 refine cI (reply_ok x.c.key x.c.yes (fun h' S => hc _ S.tl) hD S W (by omega)) ?_
 clear S F
 intro v h hv
 obtain ⟨e, rfl⟩ := resE_int hv
 have hv := resE_D hv
 rw [← hX] at hv
 refine Wa ?_
 exact hK _ _ (hdrop hv)
theorem Take_ok (x : CmdV) (hs : stcA D (.slice Au U.length cu) U ∈ l) (hx : ∀ h', St h0 h' l → Arr zEnc 1 h' x.A x.c.us) (hxl : x.c.us.length ≤ 1000) (hi : x.c.i64) (hD : Stc D U)
  (S : St h0 h (sagaA p D (.slice Au U.length cu) s :: l)) (W : s.wf U m) (hm : m < 250000) :
  CallsH Tryz.prog 9 [.pointer (some ⟨p, 0, none⟩), .agg x.enc.toArray] h fun v h' => ∃ sl, v = .tuple #[.int .i64 (takeP D U s x.c).1, sl, .int .i64 (takeP D U s x.c).2.2.1] ∧
   St h0 h' (ownA Msg.enc 6 44 sl (takeP D U s x.c).2.1 :: sagaA p D (.slice Au U.length cu) (takeP D U s x.c).2.2.2 :: l) := by
 have hul := hD.ul
 have hd : takeP D U s x.c = if dcd x.c.formed = false then (0, [], 1, s) else match doP D U ⟨s, []⟩ x.c with
  | .error e => (0, [], e, s)
  | .ok x => (x.1, x.2.2.sd ++ x.2.1, 0, x.2.2.s) := rfl
 generalize takeP D U s x.c = Y at *
 refine EN i9.eq_1 fun K hK => Wa ?_
 (revert S; (try clear F); refine AL fun g h S F => ?_)
 have S : St h0 h (sagaA p D (.slice Au U.length cu) s :: cellA g x.enc 40 :: l) := S.p1
 ((try clear F); have F := S.fx)
 refine Wc F @CmdV.enc.eq_1 ?_
 refine cI (Formed_ok x (hx _ S.tl.tl) hxl hi) ?_
 clear F
 rintro _ h ⟨rfl, f1⟩
 have S := S.frame f1
 clear f1
 by_cases hf : x.c.formed
 case neg =>
  rw [if_pos (dF hf)] at hd
  rw [dF hf]
  refine Wa ?_
  refine hK _ _ ⟨_, by rw [hd], ?_⟩
  rw [hd]
  exact S.d1.nilS
 rw [if_neg (by rw [dT hf]; decide)] at hd
 rw [dT hf]
 refine Wa ?_
 refine cI (SagaClone_ok S W hul (by omega)) ?_
 clear S
 rintro _ h ⟨q, rfl, S⟩
 obtain ⟨L, hLp, Sw⟩ := saga_wk S
 subst hLp
 clear S
 have S := Sw
 clear Sw
 have FN := st_rdN (off := 0) (n := 12) S.p2 (by simp [CmdV.enc])
 refine Wb @FN ?_
 clear FN
 refine cI (sdo_ok x (fun h' S => (sAa (U := U) (A := Au) (c := cu) S (by simp [hs])).1) (fun h' S => (sAa (U := U) (A := Au) (c := cu) (D := D) S (by simp [hs])).2) (fun h' S => hx _ S.tl.tl) (fun e => ?_) hi hD S W hm) ?_
 ·have := hf.1
  rw [Cmd.fits, if_pos e] at this
  omega
 clear S
 have hwf := fun y => do_wf (D := D) (U := U) (w := ⟨s, []⟩) (c := x.c) (x := y) (m := m) hul (fun e => by
  have := hf.1
  rw [Cmd.fits, if_pos e] at this
  omega)
 have hlen := fun y => doP_len (D := D) (U := U) (w := ⟨s, []⟩) (c := x.c) (y := y) (m := m)
 cases hy : doP D U ⟨s, []⟩ x.c with
 | error e =>
  rw [hy] at hd
  rintro _ h ⟨he, n, sl, rfl, S⟩
  refine Wb he ?_
  refine hK _ _ ⟨_, by rw [hd], ?_⟩
  rw [hd]
  exact S.d1.nilS
 | ok y =>
  rw [hy] at hd
  have hlen := hlen _ hy W
  have W1 := hwf _ hy W
  clear hwf hy
  obtain ⟨n, ag, w1⟩ := y
  simp only at hd hlen W1
  have hsl := W1.sl
  rintro _ h ⟨A, c, sl, rfl, S⟩
  obtain ⟨sd, vs, hv, S⟩ := St.wk.1 S.p1
  have hvl : vs.length = w1.s.R.length := by rw [← hv, l_z]
  have S := S.perm (perm_rows _ _ _ _ _ _ _ _)
  have S : St h0 h (rmasA (.slice A w1.s.R.length c) w1.s.R :: cellA L.p (sagE D (.slice Au U.length cu) L.k L.t L.o (.slice A w1.s.R.length c) sd w1.s) 84 :: stockA L.k w1.s.K :: timA L.t w1.s.T :: obxA L.o w1.s.key w1.s.O :: ownA Msg.enc 6 44 sd w1.sd :: ownA Msg.enc 6 44 sl ag :: sagaA p D (.slice Au U.length cu) s :: cellA g x.enc 40 :: l) := St.rmas.2 ⟨vs, hv, S⟩
  obtain ⟨B, e, rfl⟩ := S.p5.sl
  obtain ⟨C, f, rfl⟩ := S.p6.sl
  have F := st_rd1 (off := 14) S.p1
  simp only [sagE, l_o, l_p] at F
  refine Wb F ?_
  clear F
  refine tAp (bytes := 48) (ys := ag) enc_len (by omega) enc_plain rfl S.p5 rfl (src_arr enc_len (S.p6.arr enc_len) rfl) (by omega) (by omega) ?_
  clear S
  intro sl h S
  refine Wa ?_
  refine tS S.p2 rfl rfl (l_a rfl) ?_
  clear S
  intro h S
  rw [sagE] at S
  replace S := S.nm
  have FN := st_rdN (off := 0) (n := 15) S (by simp)
  simp only [l_ao, l_aq, l_an] at FN
  refine Wb @FN ?_
  clear FN
  obtain ⟨k0, t0, o0, rs0, S⟩ := St.saga.1 S.p7
  refine tS S rfl rfl (l_a rfl) ?_
  clear S
  intro h S
  rw [sagE] at S
  replace S := S.nm
  refine Wa ?_
  have S := S.d1.d1.d1.d1.d1.p6.tl.p6.tl
  have S : St h0 h (cellA p (sagE D (.slice Au U.length cu) L.k L.t L.o (.slice A w1.s.R.length c) (.slice none 0 0) w1.s) 84 :: ownA Msg.enc 6 44 sl (w1.sd ++ ag) :: _) := S
  refine hK _ _ ⟨sl, by rw [hd], ?_⟩
  rw [hd]
  have S : St h0 h (sagaA p D (.slice Au U.length cu) w1.s :: ownA Msg.enc 6 44 sl (w1.sd ++ ag) :: l) := St.saga.2 ⟨L.k, L.t, L.o, _, by (exact PM S) ⟩
  exact S.p1
end
end
section
set_option maxHeartbeats 8000000
def atOf (u : Unt) : Int := if u.ord < 0 then 3 else 0
noncomputable def sagNew (C : Cfg) : Sag := ⟨stkOf ((unitsAll C).map Unt.sku) ((unitsAll C).map atOf), ⟨0, 0, 0, 0, 0⟩, [], [], 1, [], 0⟩
theorem map_set {U : List Unt} (f : Unt → Int) {i : Nat} (hi : i < U.length) : ((U.take i).map f ++ List.replicate (U.length - i) 0).set i (f U[i]) = (U.take (i + 1)).map f ++ List.replicate (U.length - (i + 1)) 0 := by
 rw [List.set_append_right _ _ (by rw [l_z, l_ad]; omega), l_z, l_ad, Nat.min_eq_left (by omega), Nat.sub_self, show U.length - i = U.length - (i + 1) + 1 by omega, List.replicate_succ, l_h, l_t hi, l_al, l_q]
 rfl
theorem map_len {U : List Unt} (f : Unt → Int) {i : Nat} (hi : i ≤ U.length) : ((U.take i).map f ++ List.replicate (U.length - i) (0 : Int)).length = U.length := by
 rw [l_m, l_z, l_ad, l_ah]; omega
section
variable {h0 h : Heap} {l : List HP}
theorem skus_ok {A : Option Addr} {c : Nat} {U : List Unt} (S : St h0 h l) (ha : ∀ h', St h0 h' l → Arr Unt.enc 4 h' A U) (hl : U.length < 1000000) :
  CallsH Tryz.prog 27 [.slice A U.length c] h fun v h' => St h0 h' (ownA zEnc 1 3 v (U.map Unt.sku) :: l) := by
 refine EN i27.eq_1 fun K hK => Wa ?_
 refine st_make (0 : Int) zEl rfl S (by omega) (by omega) ?_
 clear S
 intro w h S
 obtain ⟨B, d, rfl⟩ := S.sl
 rw [l_ah] at S ⊢
 refine Wa ?_
 refine lI (fun ρ h' => ρ 3 = .slice B U.length d ∧ ρ 9 = .slice A U.length c ∧ ρ 10 = .int .i64 U.length ∧ ∃ i : Nat, ρ 11 = .int .i64 i ∧ i ≤ U.length ∧
  St h0 h' (ownA zEnc 1 3 (.slice B U.length d) ((U.take i).map Unt.sku ++ List.replicate (U.length - i) 0) :: l)) (fun ρ _ => U.length - (iv (ρ 11)).toNat) ?_ ?_
 ·refine Wa ?_
  exact ⟨0, rfl, by omega, S⟩
 clear S
 rintro ρ h J hJ ⟨e3, e9, e10, i, e11, hi, S⟩
 refine Wc e10 e11 ?_
 refine cD (fun hlt => ?_) (fun hlt => ?_)
 ·have hil : i < U.length := by omega
  obtain ⟨b1, o1, rfl, q1⟩ := (ha _ S.tl).at hil
  have hset := map_set Unt.sku hil
  have hlen := map_len Unt.sku hi
  generalize U[i] = x at *
  refine Wd e9 e11 q1 ?_
  (revert S; (try clear F); refine AL fun q h S F => ?_)
  refine Wc F @Unt.enc.eq_1 ?_
  (revert S; (try clear F); refine ST fun h S F => ?_)
  obtain ⟨b, rfl⟩ := S.p1.ownAt (by omega)
  refine Wd e3 e11 F ?_
  refine st_setOwn zEl (i := i) (x := x.sku) S.p1 (by omega) (by rw [Nat.mul_one]; try rfl) rfl rfl rfl ?_
  clear S F q1
  intro h S
  rw [hset] at S
  refine Wb e11 ?_
  refine hJ _ _ ?_ ?_
  ·refine Wd e3 e9 e10 ?_
   exact ⟨i + 1, rfl, by omega, S.d1⟩
  ·refine Wb e11 ?_
   omega
 obtain rfl : i = U.length := by omega
 rw [Nat.sub_self, List.replicate_zero, l_am, l_aj] at S
 refine Wb e3 ?_
 exact hK _ _ S
theorem NewS_ok (C : Cfg) (r : ∀ h', St h0 h' l → C.rd h') (w : C.wf) (l1 : C.os.length < 1000000) (l2 : C.ss.length < 1000000) (l3 : C.ps.length < 1000000) (l4 : ∀ o ∈ C.os, o.ls.length < 1000000) (S : St h0 h l) :
  CallsH Tryz.prog 8 [.agg C.enc.toArray] h fun v h' => (¬ okCfg C ∧ v = .tuple #[.pointer none, .int .i64 1] ∧ St h0 h' l) ∨
   (okCfg C ∧ ∃ p D u, v = .tuple #[.pointer (some ⟨p, 0, none⟩), .int .i64 0] ∧ D.wf ∧ D.pu = C.pu ∧ St h0 h' (sagaA p D u (sagNew C) :: stcA D u (unitsAll C) :: l)) := by
 refine EN i8.eq_1 fun K hK => Wa ?_
 (revert S; (try clear F); refine AL fun g h S F => ?_)
 refine Wc F @Cfg.enc.eq_1 ?_
 rw [show [Value.slice C.A1 C.os.length C.c1, .slice C.A2 C.ss.length C.c2, .slice C.A3 C.ps.length C.c3] = C.enc from rfl]
 refine cI (OUnits_ok C (fun h' S => r h' S.tl) w l1 l2 l3 l4 S) ?_
 clear S F
 rintro _ h (⟨hok, rfl, S⟩ | ⟨hok, u, rfl, S⟩)
 ·refine Wa ?_
  exact hK _ _ (.inl ⟨hok, rfl, S.tl⟩)
 obtain ⟨A, c, rfl⟩ := S.sl
 obtain ⟨_, hul⟩ := unitsAll_len hok
 obtain ⟨U, hU⟩ : ∃ U, U = unitsAll C := ⟨_, rfl⟩
 rw [← hU] at S hul ⊢
 refine Wa ?_
 refine st_make (0 : Int) zEl rfl S (by omega) (by omega) ?_
 clear S
 intro w' h S
 obtain ⟨B, d, rfl⟩ := S.sl
 rw [l_ah] at S ⊢
 refine Wa ?_
 refine lI (fun ρ h' => ρ 1 = .pointer (some ⟨g, 0, none⟩) ∧ ρ 4 = .slice A U.length c ∧ ρ 6 = .slice B U.length d ∧ ρ 20 = .slice A U.length c ∧ ρ 21 = .int .i64 U.length ∧ ∃ i : Nat, ρ 22 = .int .i64 i ∧ i ≤ U.length ∧
  St h0 h' (ownA zEnc 1 3 (.slice B U.length d) ((U.take i).map atOf ++ List.replicate (U.length - i) 0) :: ownA Unt.enc 4 72 (.slice A U.length c) U :: cellA g C.enc 26 :: l)) (fun ρ _ => U.length - (iv (ρ 22)).toNat) ?_ ?_
 ·refine Wa ?_
  exact ⟨0, rfl, by omega, S⟩
 clear S
 rintro ρ h J hJ ⟨e1, e4, e6, e20, e21, i, e22, hi, S⟩
 refine Wc e21 e22 ?_
 refine cD (fun hlt => ?_) (fun hlt => ?_)
 ·have hil : i < U.length := by omega
  obtain ⟨b1, o1, rfl, q1⟩ := (S.p1.arr Unt.enc_len).at hil
  have hset := map_set atOf hil
  have hlen := map_len atOf hi
  have hsame : U[i].ord < 0 ∨ ((U.take i).map atOf ++ List.replicate (U.length - i) 0) = (U.take (i + 1)).map atOf ++ List.replicate (U.length - (i + 1)) 0 := by
   by_cases hx : U[i].ord < 0
   ·exact .inl hx
   ·refine .inr ?_
    have : atOf U[i] = 0 := if_neg hx
    rw [l_t hil, l_al, l_q, show U.length - i = U.length - (i + 1) + 1 by omega, List.replicate_succ]
    simp [this]
  generalize U[i] = x at *
  refine Wd e20 e22 q1 ?_
  (revert S; (try clear F); refine AL fun q h S F => ?_)
  refine Wc F @Unt.enc.eq_1 ?_
  (revert S; (try clear F); refine ST fun h S F => ?_)
  by_cases hx : x.ord < 0
  ·obtain ⟨b, rfl⟩ := S.p1.ownAt (by omega)
   refine We e6 e22 F hx ?_
   refine st_setOwn zEl (i := i) (x := 3) S.p1 (by omega) (by rw [Nat.mul_one]; try rfl) rfl rfl rfl ?_
   clear S F q1
   intro h S
   rw [show (3 : Int) = atOf x by rw [atOf, if_pos hx], hset] at S
   refine Wb e22 ?_
   refine hJ _ _ ?_ ?_
   ·refine Wf e1 e4 e6 e20 e21 ?_
    exact ⟨i + 1, rfl, by omega, S.d1⟩
   ·refine Wb e22 ?_
    omega
  ·rw [hsame.resolve_left hx] at S
   refine Wd e22 F hx ?_
   refine hJ _ _ ?_ ?_
   ·refine Wf e1 e4 e6 e20 e21 ?_
    exact ⟨i + 1, rfl, by omega, S.tl⟩
   ·refine Wb e22 ?_
    omega
 obtain rfl : i = U.length := by omega
 rw [Nat.sub_self, List.replicate_zero, l_am, l_aj] at S
 clear hJ e20 e21 e22
 refine Wb e4 ?_
 refine cI (skus_ok S (fun h' S => S.p1.arr Unt.enc_len) (by omega)) ?_
 clear S
 intro v h S
 obtain ⟨Ak, ck, rfl⟩ := S.sl
 refine Wb e6 ?_
 have hn : U.length = (U.map atOf).length := (l_z ..).symm
 have hn2 : (U.map Unt.sku).length = U.length := l_z ..
 have hcall := NewK_ok (A := Ak) (B := B) (c := ck) (d := d) (sk := U.map Unt.sku) (at_ := U.map atOf) S (fun h' S => S.arr zEl) (fun h' S => by have S1 := S.p1; rw [hn] at S1; exact S1.arr zEl) (by rw [hn2]; omega) (by rw [← hn]; omega)
 rw [← hn] at hcall
 refine cI hcall ?_
 clear S hcall
 have hokA : okAt (U.map atOf) := fun q hq => by
  obtain ⟨x, _, rfl⟩ := List.mem_map.1 hq
  unfold atOf
  split <;> omega
 rintro _ h (⟨hbad, _⟩ | ⟨_, k, rfl, S⟩)
 ·exact (hbad ⟨by rw [hn2], by rw [hn2]; exact hul, hokA⟩).elim
 have S := S.d1.d1
 ((try clear F); have F := S.fx)
 refine Wc e1 F ?_
 refine cI (CfgClone_ok C (fun h' S => r h' S.tl.tl.tl) hok S) ?_
 clear S F
 rintro _ h ⟨D, rfl, hw, hp, S⟩
 refine Wc e4 @Cfg.enc.eq_1 ?_
 (revert S; (try clear F); refine AL fun t h S F => ?_)
 have S := tim_new S
 refine Wa ?_
 refine cI (NewO_ok S) ?_
 clear S F
 rintro _ h ⟨o, rfl, S⟩
 refine Wb @Cfg.enc.eq_1 ?_
 (revert S; (try clear F); refine AL fun p h S F => ?_)
 refine Wa ?_
 refine hK _ _ (.inr ⟨hok, p, D, .slice A U.length c, rfl, hw, hp, ?_⟩)
 have S : St h0 h (rmasA (.slice none 0 0) [] :: _) := St.rmas.2 ⟨[], rfl, S.nilS⟩
 have S := St.star.2 (S.p7.tl.p6.p5)
 rw [hU] at S ⊢
 have S : St h0 h (stcA D (.slice A (unitsAll C).length c) (unitsAll C) :: rmasA (.slice none 0 0) (sagNew C).R :: cellA p (sagE D (.slice A (unitsAll C).length c) k t o (.slice none 0 0) (.slice none 0 0) (sagNew C)) 84 :: obxA o (sagNew C).key (sagNew C).O :: timA t (sagNew C).T :: stockA k (sagNew C).K :: l) := S
 exact St.saga.2 ⟨k, t, o, .slice none 0 0, by (exact PM S) ⟩
end
end
section
set_option maxHeartbeats 8000000
theorem intc_of {h : Heap} {d : Nat} {cs : List Value} (hg : Good Tryz.prog h d 3 cs) : ∃ x : Int, cs = zEnc x ∧ I64 x := by
 have hl : leaves Tryz.prog 2 3 = some [.int .i64] := by kernel_rfl
 obtain ⟨a0, _, rfl, w0, rfl⟩ := leaves_of 2 hg hl
 exact ⟨a0, rfl, wf_i64 w0⟩
structure CmdV.ok (h : Heap) (x : CmdV) : Prop where
 us : Arr zEnc 1 h x.A x.c.us
 lt : x.c.us.length < 9223372036854775808
 i64 : x.c.i64
theorem cmd_of {h : Heap} {d : Nat} {cs : List Value} (hg : Good Tryz.prog h d 42 cs) : ∃ x : CmdV, cs = x.enc ∧ x.ok h := by
 have hl : leaves Tryz.prog 3 42 = some [.int .i64, .int .i64, .slice 3, .int .i64, .int .i64, .bool, .int .i64, .int .i64, .int .i64, .int .i64, .int .i64, .bool] := by kernel_rfl
 obtain ⟨a0, _, rfl, w0, a1, _, rfl, w1, v2, _, rfl, g2, a3, _, rfl, w3, a4, _, rfl, w4, b5, _, rfl, a6, _, rfl, w6, a7, _, rfl, w7, a8, _, rfl, w8, a9, _, rfl, w9, a10, _, rfl, w10, b11, _, rfl, rfl⟩ := leaves_of 3 hg hl
 have hm : maxLen = 9223372036854775807 := rfl
 obtain ⟨A, c, us, rfl, hu, q1, q2, hw⟩ := GoodS.arr (enc := zEnc) (sz := 1) (by kernel_rfl) (by decide) g2 intc_of
 exact ⟨⟨⟨a0, a1, us, a3, a4, b5, a6, a7, a8, a9, a10, b11⟩, A, c⟩, rfl, hu, by show us.length < _; omega, ⟨wf_i64 w0, wf_i64 w1, hw, wf_i64 w3, wf_i64 w4, wf_i64 w6, wf_i64 w7, wf_i64 w8, wf_i64 w9, wf_i64 w10⟩⟩
section
variable {h0 h : Heap} {l : List HP}
theorem Theirs15_ok (x : CmdV) (ha : ∀ h', St h0 h' l → Arr zEnc 1 h' x.A x.c.us) (l1 : x.c.us.length < 1000000) (S : St h0 h l) :
  CallsH Tryz.prog 10 [.agg x.enc.toArray] h fun v h' => ∃ y : CmdV, v = .agg y.enc.toArray ∧ y.c = x.c ∧ St h0 h' (ownA zEnc 1 3 (.slice y.A y.c.us.length y.n) y.c.us :: l) := by
 refine EN i10.eq_1 fun K hK => Wa ?_
 (revert S; (try clear F); refine AL fun b h S F => ?_)
 refine Wa ?_
 (revert S; (try clear F); refine AL fun g h S F => ?_)
 refine Wc F @CmdV.enc.eq_1 ?_
 (revert S; (try clear F); refine AL fun t h S F => ?_)
 refine Wa ?_
 (revert S; (try clear F); refine ST fun h S F => ?_)
 refine Wa ?_
 (revert S; (try clear F); refine AL fun e h S F => ?_)
 have S := S.cellOwn (enc := zEnc) (sz := 1) (ys := []) zEl rfl (by decide)
 ((try clear F); have F := S.fx)
 refine Wc F @CmdV.enc.eq_1 ?_
 refine tAp (bytes := 8) (ys := x.c.us) zEl (by omega) zEp rfl S rfl (src_arr zEl (ha _ S.tl.tl.tl.tl) rfl) (by simp; omega) (by simp; omega) ?_
 clear S F
 intro v h S
 rw [l_k] at S
 obtain ⟨A, c, rfl⟩ := S.sl
 refine Wa ?_
 (revert S; (try clear F); refine ST fun h S F => ?_)
 refine Wb F ?_
 refine tS S.p2 rfl rfl (l_a rfl) ?_
 clear S F
 intro h S
 replace S := S.nm
 ((try clear F); have F := S.fx)
 refine Wb F ?_
 exact hK _ _ ⟨⟨x.c, A, c⟩, rfl, rfl, S.tl.tl.p1.tl⟩
end
theorem cArr {h : Heap} {A : Option Addr} : Arr zEnc 1 h A [] := fun i hi => absurd hi (by simp)
def c7 : Cmd := ⟨7, 0, [], 0, 0, false, 0, 0, 0, 3, 0, false⟩
theorem c7_formed : c7.formed := by
 refine ⟨?_, ?_⟩
 ·unfold Cmd.fits c7 btw
  simp
 ·unfold Cmd.bare Cmd.nought c7
  simp
theorem take_c7 {D : Cfg} : (takeP D (unitsAll c0C) (sagNew c0C) c7).2.2.1 = 0 ∧ (takeP D (unitsAll c0C) (sagNew c0C) c7).2.2.2.now = 3 := by
 unfold takeP
 rw [if_neg (by rw [dT c7_formed]; decide)]
 have : doP D (unitsAll c0C) ⟨sagNew c0C, []⟩ c7 = (tickP D.ss (unitsAll c0C) ⟨sagNew c0C, []⟩ 3).map fun x => (0, x.2, x.1) := rfl
 rw [this]
 have : tickP D.ss (unitsAll c0C) ⟨sagNew c0C, []⟩ 3 = .ok ({ (⟨sagNew c0C, []⟩ : Wk) with s := { sagNew c0C with now := 3 } }, []) := rfl
 rw [this]
 exact ⟨rfl, rfl⟩
theorem new_wf {C : Cfg} : (sagNew C).wf (unitsAll C) 0 := by
 refine ⟨?_, Nat.zero_le _, fun r hr => absurd hr (by simp [sagNew]), good_nil, fun r hr => absurd hr (by simp [sagNew]), Nat.zero_le _, fun r hr => absurd hr (by simp [sagNew]), ?_, Nat.zero_le _, ?_⟩
 ·show (stkOf ((unitsAll C).map Unt.sku) ((unitsAll C).map atOf)).length = (unitsAll C).length
  simp [stkOf]
 ·exact ⟨by show (1 : Int) ≤ 1; decide, by show (1 : Int) ≤ 8589934592 + 0; decide⟩
 ·exact ⟨by show (0 : Int) ≤ 0; decide, by show (0 : Int) ≤ 100000; decide⟩
theorem SNow_ok {h0 h : Heap} {l : List HP} {p : Nat} {D : Cfg} {u : Value} {s : Sag} (S : St h0 h (sagaA p D u s :: l)) : CallsH Tryz.prog 23 [.pointer (some ⟨p, 0, none⟩)] h fun v h' => v = .int .i64 s.now ∧ h' = h := by
 obtain ⟨k, t, o, rs, S⟩ := St.saga.1 S
 refine EN i23.eq_1 fun K hK => Wa ?_
 ((try clear F); have F := S.fx)
 refine Wc F @sagE.eq_1 ?_
 exact hK _ _ ⟨rfl, rfl⟩
theorem awake16_ok (h : Heap) : CallsH Tryz.prog 6 [] h fun v h' => v = .bool true ∧ Fr h h' [] := by
 have S := St.nil h
 refine EN i6.eq_1 fun K hK => Wa ?_
 refine cI (NewS_ok c0C (fun h' S => ⟨Arr.nil _ _ _ _, (fun o ho => by cases ho), Arr.nil _ _ _ _, Arr.nil _ _ _ _⟩) ⟨by decide, by decide, by decide, by decide, by decide, by decide, fun o ho => by cases ho⟩ (by decide) (by decide) (by decide) (fun o ho => by cases ho) S) ?_
 clear S
 rintro _ h (⟨hn, _⟩ | ⟨_, p, D, u, rfl, hw, hp, S⟩)
 ·exact (hn c0_ok).elim
 obtain ⟨_, A, c, rfl, _⟩ := stcA_rd S.p1
 have hU : unitsAll c0C = [] := rfl
 have hD : Stc D (unitsAll c0C) := ⟨okCfg_pu hp.symm c0_ok, (by rw [hU]; intro u hu; cases hu), (by rw [hU]; intro u hu; cases hu), by rw [hU]; exact Nat.zero_le _⟩
 refine Wa ?_
 refine cI (Theirs15_ok ⟨c7, none, 0⟩ (fun h' S => cArr) (by decide) S) ?_
 clear S
 rintro _ h ⟨y, rfl, hy, S⟩
 refine Wa ?_
 have hi : y.c.i64 := by rw [hy]; exact ⟨by unfold I64 c7; decide, by unfold I64 c7; decide, fun u hu => absurd hu (by simp [c7]), by unfold I64 c7; decide, by unfold I64 c7; decide, by unfold I64 c7; decide, by unfold I64 c7; decide, by unfold I64 c7; decide, by unfold I64 c7; decide, by unfold I64 c7; decide⟩
 refine cI (Take_ok y (cu := c) (Au := A) (U := unitsAll c0C) (by simp) (fun h' S => by rw [hy]; exact cArr) (by rw [hy]; decide) hi hD S.p1 new_wf (by decide)) ?_
 clear S
 rintro _ h ⟨sl, rfl, S⟩
 rw [hy] at S ⊢
 obtain ⟨t1, t2⟩ := take_c7 (D := D)
 generalize takeP D (unitsAll c0C) (sagNew c0C) c7 = Y at *
 refine Wb t1 ?_
 refine cI (SNow_ok S.p1) ?_
 rintro _ h ⟨rfl, rfl⟩
 rw [t2]
 refine Wa ?_
 exact hK _ _ ⟨rfl, S.fr⟩
end
section
set_option maxHeartbeats 8000000
def fewS (C : Cfg) (xs : List CmdV) (n : Nat) : Prop := xs.length ≤ n ∧ (∀ x ∈ xs, x.c.us.length ≤ 100) ∧ fewC C
theorem FewS_ok {h0 : Heap} {A : Option Addr} {c : Nat} (C : Cfg) (xs : List CmdV) (n : Nat) (hn : n < 1000) (hl : xs.length < 9223372036854775808) (r : C.rd h0) (w : C.wf) (ha : Arr CmdV.enc 12 h0 A xs) :
  CallsH Tryz.prog 7 [.agg C.enc.toArray, .slice A xs.length c, .int .i64 n] h0 fun v h' => v = .bool (dcd (fewS C xs n)) ∧ Fr h0 h' [] := by
 have S := St.nil h0
 refine EN i7.eq_1 fun K hK => Wa ?_
 (revert S; (try clear F); refine AL fun g h S F => ?_)
 refine Wa ?_
 refine lI (fun ρ h' => ρ 1 = .slice A xs.length c ∧ ρ 2 = .int .i64 n ∧ ρ 3 = .pointer (some ⟨g, 0, none⟩) ∧ ρ 9 = .int .i64 xs.length ∧ ∃ i : Nat, ρ 10 = .int .i64 i ∧ i ≤ xs.length ∧ i ≤ n ∧ (∀ x ∈ xs.take i, x.c.us.length ≤ 100) ∧ St h0 h' [cellA g C.enc 26]) (fun ρ _ => xs.length - (iv (ρ 10)).toNat) ?_ ?_
 ·refine Wa ?_
  exact ⟨0, rfl, by omega, by omega, fun x hx => absurd hx (by simp), S⟩
 clear S F
 rintro ρ h J hJ ⟨e1, e2, e3, e9, i, e10, hi, hin, hp, S⟩
 ((try clear F); have F := S.fx)
 refine Wc e9 e10 ?_
 refine cD (fun hlt => ?_) (fun hlt => ?_)
 ·have hil : i < xs.length := by omega
  by_cases h1 : (n : Int) ≤ i
  ·refine Wd e2 e10 h1 ?_
   exact hK _ _ ⟨by rw [dF (fun h => by have := h.1; omega)], S.fr⟩
  obtain ⟨b, o, rfl, q⟩ := (ha.fr S.fr (by simp)).at hil
  have q := rP q 2 (by omega)
  simp only [CmdV.enc, l_o, l_p] at q
  by_cases h2 : (100 : Int) < (xs[i].c.us.length : Int)
  ·refine Wg e1 e2 e10 h1 q h2 ?_
   exact hK _ _ ⟨by rw [dF (fun h => by have := h.2.1 _ (l_v hil); omega)], S.fr⟩
  refine Wg e1 e2 e10 h1 q h2 ?_
  refine hJ _ _ ?_ ?_
  ·refine We e1 e2 e3 e9 ?_
   refine ⟨i + 1, rfl, by omega, by omega, fun x hx => ?_, S⟩
   rw [l_t hil] at hx
   rcases List.mem_append.1 hx with hx | hx
   ·exact hp x hx
   ·rw [List.mem_singleton.1 hx]; omega
  ·refine Wb e10 ?_
   omega
 obtain rfl : i = xs.length := by omega
 rw [l_aj] at hp
 refine Wc e3 F ?_
 refine cI (Few_ok C (r.fr S.fr) w) ?_
 rintro _ h ⟨rfl, f1⟩
 refine Wa ?_
 exact hK _ _ ⟨congrArg _ (by
  by_cases hf : fewC C
  ·rw [dT hf, dT ⟨hin, hp, hf⟩]
  ·rw [dF hf, dF (fun h => hf h.2.2)]), (S.frame f1).fr⟩
end
theorem addS_cat {sg : Int} {sh : List Int} {U : List Unt} (h : ∀ u ∈ U, 0 ≤ u.cat) : ∀ u ∈ addS sg sh U, 0 ≤ u.cat := by
 intro u hu
 unfold addS at hu
 obtain ⟨i, hi, rfl⟩ := l_af hu
 simp only [List.getElem_zipWith]
 exact h (U[i]'(by rw [List.length_zipWith] at hi; omega)) (l_v _)
theorem unitsR_cat {o : Odr} {k : Int} (ho : ∀ l ∈ o.ls, okLine k l) (i : Int) : ∀ r, ∀ u ∈ unitsR o i r, 0 ≤ u.cat
 | 0 => by
  intro u hu
  obtain ⟨x, hx, hu⟩ := List.mem_flatMap.1 hu
  rw [(List.mem_replicate.1 hu).2]
  exact (ho x hx).2.1
 | r + 1 => addS_cat (unitsR_cat ho i r)
theorem ordsU_cat {k : Int} : ∀ {os : List Odr} (i : Nat), (∀ o ∈ os, okOrder k o) → ∀ u ∈ ordsU i os, 0 ≤ u.cat
 | [], _, _, u, hu => by cases hu
 | o :: os, i, h, u, hu => by
  rcases List.mem_append.1 hu with hu | hu
  ·exact unitsR_cat (h o (by simp)).2.1 _ _ u hu
  ·exact ordsU_cat (i + 1) (fun x hx => h x (by simp [hx])) u hu
theorem units_cat {C : Cfg} (hok : okCfg C) : ∀ u ∈ unitsAll C, 0 ≤ u.cat := fun u hu => by
 rcases List.mem_append.1 hu with hu | hu
 ·exact ordsU_cat 0 hok.2.2.2.1 u hu
 ·obtain ⟨x, _, hu⟩ := List.mem_flatMap.1 hu
  rw [(List.mem_replicate.1 hu).2]
  exact Int.le_refl _
theorem stc_new {C D : Cfg} (hp : D.pu = C.pu) (hok : okCfg C) : Stc D (unitsAll C) := ⟨okCfg_pu hp.symm hok, units_nn hok, units_cat hok, (unitsAll_len hok).2⟩
section
set_option maxHeartbeats 1000000
def Grow (w w' : Wk) : Prop := ∃ nw : List Msg, w'.sd = w.sd ++ nw ∧ w'.s.key = w.s.key + nw.length ∧ (∀ i, (hi : i < nw.length) → nw[i].key = w.s.key + i) ∧ w'.s.O.Sublist (w.s.O ++ nw)
section
variable {w w1 w2 w' : Wk} {U : List Unt} {ss : List Sup} {ps : List Pol}
theorem Grow.same (h1 : w'.sd = w.sd) (h2 : w'.s.key = w.s.key) (h3 : w'.s.O.Sublist w.s.O) : Grow w w' := ⟨[], by simp [h1], by simp [h2], fun i hi => absurd hi (by simp), by simpa using h3⟩
theorem Grow.refl (w : Wk) : Grow w w := .same rfl rfl (List.Sublist.refl _)
theorem Grow.trans (a : Grow w w1) (b : Grow w1 w2) : Grow w w2 := by
 obtain ⟨n1, a1, a2, a3, a4⟩ := a
 obtain ⟨n2, b1, b2, b3, b4⟩ := b
 refine ⟨n1 ++ n2, by rw [b1, a1, l_q], by rw [b2, a2, l_m]; omega, fun i hi => ?_, ?_⟩
 ·rw [l_m] at hi
  by_cases hc : i < n1.length
  ·rw [List.getElem_append_left hc]; exact a3 i hc
  ·rw [List.getElem_append_right (by omega), b3 _ (by omega), a2]; omega
 ·rw [← l_q]
  exact b4.trans (List.Sublist.append_right a4 n2)
theorem grow_say (w : Wk) (k n v : Int) : Grow w (sayP w k n v) := ⟨[⟨w.s.key, k, n, v, 1, w.s.now + 1⟩], rfl, rfl, fun i hi => by
 obtain rfl : i = 0 := by simp at hi; omega
 simp, List.Sublist.refl _⟩
theorem grow_put (w : Wk) (i : Nat) (r : Ret) : Grow w (w.put i r) := .same rfl rfl (List.Sublist.refl _)
theorem grow_mv (w : Wk) (n to : Int) : Grow w (w.mv n to) := .same rfl rfl (List.Sublist.refl _)
theorem grow_release (w : Wk) (i : Nat) : Grow w (releaseP w i) := by
 unfold releaseP
 split
 ·exact .same rfl rfl (List.Sublist.refl _)
 ·exact .refl _
theorem grow_end {num by_ : Int} (h : endP w num by_ = .ok w') : Grow w w' := by
 unfold endP at h
 split at h
 ·cases h
 ·rename_i r hr
  split at h
  ·cases h
  ·rename_i st hst
   cases h
   have g := (grow_put w (num - 1).toNat { r with state := st }).trans (grow_release (w.put (num - 1).toNat { r with state := st }) (num - 1).toNat)
   exact g.trans (.same rfl rfl List.filter_sublist)
theorem grow_step {num by_ : Int} (h : stepP w num by_ = .ok w') : Grow w w' := by
 unfold stepP at h
 split at h
 ·cases h
 ·split at h
  ·cases h
  ·cases h; exact grow_put _ _ _
theorem grow_moves (us : List Int) (to : Int) : ∀ w : Wk, Grow w (movesP w us to) := by
 induction us with
 | nil => exact fun w => .refl _
 | cons u us ih => exact fun w => (grow_mv w u to).trans (ih _)
theorem grow_pick {num : Int} (h : pickP w num = .ok w') : Grow w w' := by
 obtain ⟨w1, h1, h2⟩ := bind_ok h
 cases h2
 exact ((grow_step h1).trans (grow_moves _ _ _)).trans (.same rfl rfl (List.Sublist.refl _))
theorem grow_receive {num : Int} (h : receiveP w num = .ok w') : Grow w w' := by
 obtain ⟨w1, h1, h2⟩ := bind_ok h
 cases h2
 exact ((grow_step h1).trans (grow_moves _ _ _)).trans (.same rfl rfl (List.Sublist.refl _))
theorem grow_post {a b sum : Int} (h : wpost w a b sum = .ok w') : Grow w w' := by
 obtain ⟨l, _, rfl⟩ := map_ok h
 exact .same rfl rfl (List.Sublist.refl _)
theorem grow_credit {i : Nat} {sum : Int} (h : creditP w i sum = .ok w') : Grow w w' := (grow_put _ _ _).trans (grow_post h)
theorem grow_pay {i : Nat} {sum : Int} (h : payP w i sum = .ok w') : Grow w w' := by
 unfold payP at h
 split at h
 ·cases h; exact .refl _
 ·split at h
  ·exact grow_credit h
  ·cases h; exact grow_say _ _ _ _
theorem grow_close (w : Wk) (i : Nat) : Grow w (closeP w i) := by
 unfold closeP
 split
 ·exact grow_put _ _ _
 ·exact .refl _
theorem grow_settle {i : Nat} {by_ : Int} (h : settleP ss w i by_ = .ok w') : Grow w w' := by
 unfold settleP at h
 split at h
 ·cases h
 ·obtain ⟨w1, h1, h⟩ := bind_ok h
  have g1 := (grow_put w i _).trans (grow_post h1)
  obtain ⟨w2, h2, rfl⟩ := map_ok h
  refine (g1.trans ?_).trans (grow_close _ _)
  split at h2
  ·split at h2
   ·exact (grow_release _ _).trans (grow_pay h2)
   ·exact (grow_say _ _ _ _).trans (grow_pay h2)
  ·exact grow_pay h2
theorem grow_loseTo (w : Wk) (i : Nat) : ∀ j, Grow w (loseTo U w i j)
 | 0 => .refl _
 | j + 1 => ((grow_loseTo w i j).trans (grow_mv _ _ _)).trans (grow_put _ _ _)
theorem grow_due {num : Int} (h : dueP ss U w num = .ok w') : Grow w w' := by
 unfold dueP at h
 split at h
 ·cases h
 ·split at h
  ·exact (grow_loseTo w _ _).trans (grow_settle h)
  ·split at h
   ·exact grow_end h
   ·cases h; exact .refl _
theorem grow_fold {α : Type} {f : Wk → α → Except Int Wk} (hf : ∀ {w w' : Wk} {x : α}, f w x = .ok w' → Grow w w') : ∀ {l : List α} {w w' : Wk}, foldE f w l = .ok w' → Grow w w'
 | [], w, w', h => by cases h; exact .refl _
 | x :: l, w, w', h => by
  obtain ⟨w1, h1, h2⟩ := bind_ok h
  exact (hf h1).trans (grow_fold hf h2)
theorem grow_reply {key : Int} {yes : Bool} (h : replyP ss w key yes = .ok w') : ∃ (j : Nat) (hj : j < w.s.O.length), w.s.O[j].key = key ∧ Grow { w with s := { w.s with O := w.s.O.take j ++ w.s.O.drop (j + 1) } } w' := by
 unfold replyP at h
 split at h
 ·cases h
 ·rename_i j hj
  rw [List.findIdx?_eq_some_iff_getElem] at hj
  obtain ⟨hjl, hk, _⟩ := hj
  refine ⟨j, hjl, by simpa using hk, ?_⟩
  simp only at h
  split at h
  ·cases h
  ·split at h
   ·exact grow_end h
   ·obtain ⟨w2, h2, rfl⟩ := map_ok h
    refine Grow.trans ?_ (grow_close _ _)
    split at h2
    ·exact grow_step h2
    ·split at h2
     ·unfold paidP at h2
      split at h2
      ·exact (grow_put _ _ _).trans (grow_post h2)
      ·exact grow_credit h2
     ·split at h2
      ·unfold shippedP at h2
       simp only at h2
       split at h2
       ·split at h2
        ·exact ((grow_put _ _ _).trans (grow_mv _ _ _)).trans (grow_post h2)
        ·cases h2
       ·exact (grow_release _ _).trans (grow_pay h2)
      ·split at h2
       ·cases h2; exact grow_mv _ _ _
       ·cases h2
theorem grow_grade {c : Cmd} (h : gradeP ps ss U w c = .ok w') : Grow w w' := by
 unfold gradeP at h
 split at h
 ·cases h
 ·split at h
  ·cases h
  ·split at h
   ·cases h
   ·split at h
    ·cases h
    ·unfold gradeK at h
     simp only at h
     by_cases ht : (polOf ps (untAt U c.unit).cat).gto c.grade ≠ 0
     ·simp only [if_pos ht] at h
      split at h
      ·cases h
       exact (grow_put _ _ _).trans (grow_mv _ _ _)
      ·exact ((grow_put _ _ _).trans (grow_mv _ _ _)).trans (grow_settle h)
     ·simp only [if_neg ht] at h
      split at h
      ·cases h
       exact ((grow_put _ _ _).trans (grow_mv _ _ _)).trans (grow_say _ _ _ _)
      ·exact (((grow_put _ _ _).trans (grow_mv _ _ _)).trans (grow_say _ _ _ _)).trans (grow_settle h)
theorem grow_request {os : List Odr} {c : Cmd} {x : Int × Wk} (h : requestP ps os ss U w c = .ok x) : Grow w x.2 := by
 unfold requestP at h
 split at h
 ·cases h
 ·split at h
  ·cases h
  ·split at h
   ·cases h
   ·obtain ⟨y, h3, rfl⟩ := map_ok h
    have g : Grow w y.2 := by
     unfold wantedP at h3
     split at h3
     ·cases h3; exact .refl _
     ·split at h3
      ·cases h3
      ·split at h3
       ·cases h3
       ·cases h3; exact .same rfl rfl (List.Sublist.refl _)
    exact (g.trans (.same (w' := { y.2 with s := { y.2.s with R := _, T := _ } }) rfl rfl (List.Sublist.refl _))).trans (grow_say _ _ _ _)
def KeysOK (s : Sag) : Prop := (∀ m ∈ s.O, m.key < s.key) ∧ s.O.Pairwise (fun a b => a.key ≠ b.key)
theorem grow_keys (g : Grow w w') (h : KeysOK w.s) : KeysOK w'.s := by
 obtain ⟨nw, _, hk, hn, hs⟩ := g
 have hnm : ∀ m ∈ nw, w.s.key ≤ m.key ∧ m.key < w'.s.key := fun m hm => by
  obtain ⟨i, hi, rfl⟩ := l_af hm
  rw [hn i hi, hk]
  omega
 refine ⟨fun m hm => ?_, List.Pairwise.sublist hs ?_⟩
 ·rcases List.mem_append.1 (hs.subset hm) with h1 | h1
  ·have := h.1 m h1; rw [hk]; omega
  ·exact (hnm m h1).2
 ·rw [List.pairwise_append]
  refine ⟨h.2, ?_, fun a ha b hb => ?_⟩
  ·rw [List.pairwise_iff_getElem]
   intro i j hi hj hij
   rw [hn i hi, hn j hj]
   omega
  ·have := h.1 a ha
   have := (hnm b hb).1
   omega
end
end
end Go.Proofs.YtcgbhcgfdcfmaaaGreat.MX
