import Derived.Test.YtcgbhcgfdcfmaaaGreatK36
import Derived.Test.YtcgbhcgfdcfmaaaGreatK29
import Derived.Test.YtcgbhcgfdcfmaaaGreatK21
import Derived.Test.YtcgbhcgfdcfmaaaGreatK25
import Derived.Test.YtcgbhcgfdcfmaaaGreatK26
import Derived.Test.YtcgbhcgfdcfmaaaGreatK30
import Derived.Test.YtcgbhcgfdcfmaaaGreatK20
namespace Go.Proofs.YtcgbhcgfdcfmaaaGreat.MX
open Go Go.Proofs
set_option linter.unusedSimpArgs false
set_option linter.unusedVariables false
section
set_option maxHeartbeats 8000000
def resD (h0 : Heap) (L : Loc) (D : Cfg) (u : Value) (l : List HP) (x : Except Int (Int × List Msg × Wk)) (v : Value) (h' : Heap) : Prop := match x with
 | .error e => e ≠ 0 ∧ ∃ (n : Int) (sl : Value), v = .tuple #[.int .i64 n, sl, .int .i64 e] ∧ St h0 h' l
 | .ok y => ∃ A c sl, v = .tuple #[.int .i64 y.1, sl, .int .i64 0] ∧ St h0 h' (ownA Msg.enc 6 44 sl y.2.1 :: wkA { L with A := A, c := c } D u y.2.2 :: l)
section
variable {h0 h : Heap} {l : List HP} {p : Nat} {D : Cfg} {u : Value} {s : Sag} {U : List Unt} {m : Nat} {w : Wk} {L : Loc} {Au : Option Addr} {cu : Nat}
theorem resE_D {x : Except Int Wk} {v : Value} (hv : resE h0 L D u l x v h) : resD h0 L D u l (x.map fun w => (0, [], w)) (.tuple #[.int .i64 0, .slice none 0 0, v]) h := by
 cases x with
 | error e =>
  obtain ⟨he, rfl, S⟩ := hv
  exact ⟨he, 0, _, rfl, S⟩
 | ok w =>
  obtain ⟨rfl, S⟩ := hv
  exact ⟨L.A, L.c, _, rfl, S.nilS⟩
theorem resE_int {x : Except Int Wk} {v : Value} (hv : resE h0 L D u l x v h) : ∃ n, v = .int .i64 n := by
 cases x with
 | error e => exact ⟨_, hv.2.1⟩
 | ok w => exact ⟨_, hv.1⟩
theorem resT_D {x : Except Int (Wk × List Msg)} {v : Value} (hv : resT h0 L D u l x v h) : ∃ (s : Value) (e : Int), v = .tuple #[s, .int .i64 e] ∧ resD h0 L D u l (x.map fun x => (0, x.2, x.1)) (.tuple #[.int .i64 0, s, .int .i64 e]) h := by
 cases x with
 | error e =>
  obtain ⟨he, rfl, S⟩ := hv
  exact ⟨_, _, rfl, he, 0, _, rfl, S⟩
 | ok w =>
  obtain ⟨s, rfl, S⟩ := hv
  exact ⟨_, _, rfl, L.A, L.c, _, rfl, S.p1⟩
theorem resQ_D {x : Except Int (Int × Wk)} {v : Value} (hv : resQ h0 L D u l x v h) : ∃ (n e : Int), v = .tuple #[.int .i64 n, .int .i64 e] ∧ resD h0 L D u l (x.map fun x => (x.1, [], x.2)) (.tuple #[.int .i64 n, .slice none 0 0, .int .i64 e]) h := by
 cases x with
 | error e =>
  obtain ⟨he, rfl, S⟩ := hv
  exact ⟨_, _, rfl, he, 0, _, rfl, S⟩
 | ok w =>
  obtain ⟨rfl, A, c, S⟩ := hv
  exact ⟨_, _, rfl, A, c, _, rfl, S.nilS⟩
theorem doP_len {c : Cmd} {y : Int × List Msg × Wk} (h : doP D U w c = .ok y) (W : w.wf U m) : y.2.1.length ≤ 70000 + m + 200 := by
 unfold doP at h
 split at h
 ·obtain ⟨z, _, rfl⟩ := map_ok h; exact Nat.zero_le _
 split at h
 ·obtain ⟨z, _, rfl⟩ := map_ok h; exact Nat.zero_le _
 split at h
 ·obtain ⟨z, _, rfl⟩ := map_ok h; exact Nat.zero_le _
 split at h
 ·obtain ⟨z, _, rfl⟩ := map_ok h; exact Nat.zero_le _
 split at h
 ·obtain ⟨z, _, rfl⟩ := map_ok h; exact Nat.zero_le _
 split at h
 ·obtain ⟨z, _, rfl⟩ := map_ok h; exact Nat.zero_le _
 split at h
 ·obtain ⟨z, hz, rfl⟩ := map_ok h; exact (tick_wf hz W).2.2
 ·obtain ⟨z, _, rfl⟩ := map_ok h; exact Nat.zero_le _
theorem sdo_ok (x : CmdV) (hc : ∀ h', St h0 h' l → D.rd h') (hu : ∀ h', St h0 h' l → Arr Unt.enc 4 h' Au U) (hx : ∀ h', St h0 h' l → Arr zEnc 1 h' x.A x.c.us) (hxl : x.c.kind = 1 → 1 ≤ x.c.us.length ∧ x.c.us.length ≤ 200) (hi : x.c.i64) (hD : Stc D U)
  (S : St h0 h (wkA L D (.slice Au U.length cu) w :: l)) (W : w.wf U m) (hm : m < 250000) :
  CallsH Tryz.prog 31 [.pointer (some ⟨L.p, 0, none⟩), .agg x.enc.toArray] h fun v h' => resD h0 L D (.slice Au U.length cu) l (doP D U w x.c) v h' := by
 have hul := hD.ul
 obtain ⟨X, hX⟩ : ∃ X, X = doP D U w x.c := ⟨_, rfl⟩
 rw [← hX]
 unfold doP at hX
 refine EN i31.eq_1 fun K hK => Wa ?_
 (revert S; (try clear F); refine AL fun g h S F => ?_)
 have S : St h0 h (wkA L D (.slice Au U.length cu) w :: cellA g x.enc 40 :: l) := S.p1
 have hdrop : ∀ {L : Loc} {v : Value} {h' : Heap}, resD h0 L D (.slice Au U.length cu) (cellA g x.enc 40 :: l) X v h' → resD h0 L D (.slice Au U.length cu) l X v h' := fun {L v h'} hv => by
  cases X with
  | error e => obtain ⟨he, n, sl, rfl, S⟩ := hv; exact ⟨he, n, sl, rfl, S.tl⟩
  | ok y => obtain ⟨A, c, sl, rfl, S⟩ := hv; exact ⟨A, c, sl, rfl, S.p2.tl⟩
 ((try clear F); have F := S.fx)
 by_cases k1 : x.c.kind = 1
 ·rw [if_pos k1] at hX
  (try simp (disch := first|omega|assumption|exact l_a rfl) only [go_sem, ↓wBk, simprocAttr, F, CmdV.enc, eq_true k1])
  refine cI (request_ok x (fun h' S => hc _ S.tl) (fun h' S => hu _ S.tl) (fun h' S => hx _ S.tl) (hxl k1) hD S W (by omega)) ?_
  clear S F
  intro v h hv
  obtain ⟨n, e, rfl, hv2⟩ := resQ_D hv
  rw [← hX] at hv2
  refine Wa ?_
  exact hK _ _ (hdrop hv2)
 rw [if_neg k1] at hX
 by_cases k2 : x.c.kind = 2
 ·rw [if_pos k2] at hX
  refine We F @CmdV.enc.eq_1 k1 k2 ?_
  refine cI (end_ok _ _ S W (by omega) hul) ?_
  clear S F
  intro v h hv
  obtain ⟨e, rfl⟩ := resE_int hv
  have hv := resE_D hv
  rw [← hX] at hv
  refine Wa ?_
  exact hK _ _ (hdrop hv)
 rw [if_neg k2] at hX
 by_cases k3 : x.c.kind = 3
 ·rw [if_pos k3] at hX
  refine Wf F @CmdV.enc.eq_1 k1 k2 k3 ?_
  refine cI (end_ok _ _ S W (by omega) hul) ?_
  clear S F
  intro v h hv
  obtain ⟨e, rfl⟩ := resE_int hv
  have hv := resE_D hv
  rw [← hX] at hv
  refine Wa ?_
  exact hK _ _ (hdrop hv)
 rw [if_neg k3] at hX
 by_cases k4 : x.c.kind = 4
 ·rw [if_pos k4] at hX
  refine Wg F @CmdV.enc.eq_1 k1 k2 k3 k4 ?_
  refine cI (spick_ok _ S W hul) ?_
  clear S F
  intro v h hv
  obtain ⟨e, rfl⟩ := resE_int hv
  have hv := resE_D hv
  rw [← hX] at hv
  refine Wa ?_
  exact hK _ _ (hdrop hv)
 rw [if_neg k4] at hX
 by_cases k5 : x.c.kind = 5
 ·rw [if_pos k5] at hX
  refine Wh F @CmdV.enc.eq_1 k1 k2 k3 k4 k5 ?_
  refine cI (sreceive_ok _ S W hul) ?_
  clear S F
  intro v h hv
  obtain ⟨e, rfl⟩ := resE_int hv
  have hv := resE_D hv
  rw [← hX] at hv
  refine Wa ?_
  exact hK _ _ (hdrop hv)
 rw [if_neg k5] at hX
 by_cases k6 : x.c.kind = 6
 ·rw [if_pos k6] at hX
  (try simp (disch := first|omega|assumption|exact l_a rfl) only [go_sem, ↓wBk, simprocAttr, F, CmdV.enc, k1, k2, k3, k4, k5, eq_true k6])
  refine cI (grade_okS x (fun h' S => hc _ S.tl) (fun h' S => hu _ S.tl) hD S W (by omega)) ?_
  clear S F
  intro v h hv
  obtain ⟨e, rfl⟩ := resE_int hv
  have hv := resE_D hv
  rw [← hX] at hv
  refine Wa ?_
  exact hK _ _ (hdrop hv)
 rw [if_neg k6] at hX
 by_cases k7 : x.c.kind = 7
 ·rw [if_pos k7] at hX
  refine Wi F @CmdV.enc.eq_1 k1 k2 k3 k4 k5 (Pc k6 k7) ?_
  refine cI (tick_ok x.c.days (fun h' S => hc _ S.tl) (fun h' S => hu _ S.tl) hD S W (by omega) hi.days) ?_
  clear S F
  intro v h hv
  obtain ⟨n, e, rfl, hv2⟩ := resT_D hv
  rw [← hX] at hv2
  refine Wa ?_
  exact hK _ _ (hdrop hv2)
 rw [if_neg k7] at hX
 refine Wi F @CmdV.enc.eq_1 k1 k2 k3 k4 k5 (Pc k6 k7) ?_
 refine cI (reply_ok x.c.key x.c.yes (fun h' S => hc _ S.tl) hD S W (by omega)) ?_
 clear S F
 intro v h hv
 obtain ⟨e, rfl⟩ := resE_int hv
 have hv := resE_D hv
 rw [← hX] at hv
 refine Wa ?_
 exact hK _ _ (hdrop hv)
theorem Take_ok (x : CmdV) (hs : stcA D (.slice Au U.length cu) U ∈ l) (hx : ∀ h', St h0 h' l → Arr zEnc 1 h' x.A x.c.us) (hxl : x.c.us.length ≤ 1000) (hi : x.c.i64) (hD : Stc D U)
  (S : St h0 h (sagaA p D (.slice Au U.length cu) s :: l)) (W : s.wf U m) (hm : m < 250000) :
  CallsH Tryz.prog 9 [.pointer (some ⟨p, 0, none⟩), .agg x.enc.toArray] h fun v h' => ∃ sl, v = .tuple #[.int .i64 (takeP D U s x.c).1, sl, .int .i64 (takeP D U s x.c).2.2.1] ∧
   St h0 h' (ownA Msg.enc 6 44 sl (takeP D U s x.c).2.1 :: sagaA p D (.slice Au U.length cu) (takeP D U s x.c).2.2.2 :: l) := by
 have hul := hD.ul
 have hd : takeP D U s x.c = if dcd x.c.formed = false then (0, [], 1, s) else match doP D U ⟨s, []⟩ x.c with
  | .error e => (0, [], e, s)
  | .ok x => (x.1, x.2.2.sd ++ x.2.1, 0, x.2.2.s) := rfl
 generalize takeP D U s x.c = Y at *
 refine EN i9.eq_1 fun K hK => Wa ?_
 (revert S; (try clear F); refine AL fun g h S F => ?_)
 have S : St h0 h (sagaA p D (.slice Au U.length cu) s :: cellA g x.enc 40 :: l) := S.p1
 ((try clear F); have F := S.fx)
 refine Wc F @CmdV.enc.eq_1 ?_
 refine cI (Formed_ok x (hx _ S.tl.tl) hxl hi) ?_
 clear F
 rintro _ h ⟨rfl, f1⟩
 have S := S.frame f1
 clear f1
 by_cases hf : x.c.formed
 case neg =>
  rw [if_pos (dF hf)] at hd
  rw [dF hf]
  refine Wa ?_
  refine hK _ _ ⟨_, by rw [hd], ?_⟩
  rw [hd]
  exact S.d1.nilS
 rw [if_neg (by rw [dT hf]; decide)] at hd
 rw [dT hf]
 refine Wa ?_
 refine cI (SagaClone_ok S W hul (by omega)) ?_
 clear S
 rintro _ h ⟨q, rfl, S⟩
 obtain ⟨L, hLp, Sw⟩ := saga_wk S
 subst hLp
 clear S
 have S := Sw
 clear Sw
 have FN := st_rdN (off := 0) (n := 12) S.p2 (by simp [CmdV.enc])
 refine Wb @FN ?_
 clear FN
 refine cI (sdo_ok x (fun h' S => (sAa (U := U) (A := Au) (c := cu) S (by simp [hs])).1) (fun h' S => (sAa (U := U) (A := Au) (c := cu) (D := D) S (by simp [hs])).2) (fun h' S => hx _ S.tl.tl) (fun e => ?_) hi hD S W hm) ?_
 ·have := hf.1
  rw [Cmd.fits, if_pos e] at this
  omega
 clear S
 have hwf := fun y => do_wf (D := D) (U := U) (w := ⟨s, []⟩) (c := x.c) (x := y) (m := m) hul (fun e => by
  have := hf.1
  rw [Cmd.fits, if_pos e] at this
  omega)
 have hlen := fun y => doP_len (D := D) (U := U) (w := ⟨s, []⟩) (c := x.c) (y := y) (m := m)
 cases hy : doP D U ⟨s, []⟩ x.c with
 | error e =>
  rw [hy] at hd
  rintro _ h ⟨he, n, sl, rfl, S⟩
  refine Wb he ?_
  refine hK _ _ ⟨_, by rw [hd], ?_⟩
  rw [hd]
  exact S.d1.nilS
 | ok y =>
  rw [hy] at hd
  have hlen := hlen _ hy W
  have W1 := hwf _ hy W
  clear hwf hy
  obtain ⟨n, ag, w1⟩ := y
  simp only at hd hlen W1
  have hsl := W1.sl
  rintro _ h ⟨A, c, sl, rfl, S⟩
  obtain ⟨sd, vs, hv, S⟩ := St.wk.1 S.p1
  have hvl : vs.length = w1.s.R.length := by rw [← hv, l_z]
  have S := S.perm (perm_rows _ _ _ _ _ _ _ _)
  have S : St h0 h (rmasA (.slice A w1.s.R.length c) w1.s.R :: cellA L.p (sagE D (.slice Au U.length cu) L.k L.t L.o (.slice A w1.s.R.length c) sd w1.s) 84 :: stockA L.k w1.s.K :: timA L.t w1.s.T :: obxA L.o w1.s.key w1.s.O :: ownA Msg.enc 6 44 sd w1.sd :: ownA Msg.enc 6 44 sl ag :: sagaA p D (.slice Au U.length cu) s :: cellA g x.enc 40 :: l) := St.rmas.2 ⟨vs, hv, S⟩
  obtain ⟨B, e, rfl⟩ := S.p5.sl
  obtain ⟨C, f, rfl⟩ := S.p6.sl
  have F := st_rd1 (off := 14) S.p1
  simp only [sagE, l_o, l_p] at F
  refine Wb F ?_
  clear F
  refine tAp (bytes := 48) (ys := ag) enc_len (by omega) enc_plain rfl S.p5 rfl (src_arr enc_len (S.p6.arr enc_len) rfl) (by omega) (by omega) ?_
  clear S
  intro sl h S
  refine Wa ?_
  refine tS S.p2 rfl rfl (l_a rfl) ?_
  clear S
  intro h S
  rw [sagE] at S
  replace S := S.nm
  have FN := st_rdN (off := 0) (n := 15) S (by simp)
  simp only [l_ao, l_aq, l_an] at FN
  refine Wb @FN ?_
  clear FN
  obtain ⟨k0, t0, o0, rs0, S⟩ := St.saga.1 S.p7
  refine tS S rfl rfl (l_a rfl) ?_
  clear S
  intro h S
  rw [sagE] at S
  replace S := S.nm
  refine Wa ?_
  have S := S.d1.d1.d1.d1.d1.p6.tl.p6.tl
  have S : St h0 h (cellA p (sagE D (.slice Au U.length cu) L.k L.t L.o (.slice A w1.s.R.length c) (.slice none 0 0) w1.s) 84 :: ownA Msg.enc 6 44 sl (w1.sd ++ ag) :: _) := S
  refine hK _ _ ⟨sl, by rw [hd], ?_⟩
  rw [hd]
  have S : St h0 h (sagaA p D (.slice Au U.length cu) w1.s :: ownA Msg.enc 6 44 sl (w1.sd ++ ag) :: l) := St.saga.2 ⟨L.k, L.t, L.o, _, by (exact PM S) ⟩
  exact S.p1
end
end
section
set_option maxHeartbeats 8000000
theorem intc_of {h : Heap} {d : Nat} {cs : List Value} (hg : Good Tryz.prog h d 3 cs) : ∃ x : Int, cs = zEnc x ∧ I64 x := by
 have hl : leaves Tryz.prog 2 3 = some [.int .i64] := by kernel_rfl
 obtain ⟨a0, _, rfl, w0, rfl⟩ := leaves_of 2 hg hl
 exact ⟨a0, rfl, wf_i64 w0⟩
structure CmdV.ok (h : Heap) (x : CmdV) : Prop where
 us : Arr zEnc 1 h x.A x.c.us
 lt : x.c.us.length < 9223372036854775808
 i64 : x.c.i64
theorem cmd_of {h : Heap} {d : Nat} {cs : List Value} (hg : Good Tryz.prog h d 42 cs) : ∃ x : CmdV, cs = x.enc ∧ x.ok h := by
 have hl : leaves Tryz.prog 3 42 = some [.int .i64, .int .i64, .slice 3, .int .i64, .int .i64, .bool, .int .i64, .int .i64, .int .i64, .int .i64, .int .i64, .bool] := by kernel_rfl
 obtain ⟨a0, _, rfl, w0, a1, _, rfl, w1, v2, _, rfl, g2, a3, _, rfl, w3, a4, _, rfl, w4, b5, _, rfl, a6, _, rfl, w6, a7, _, rfl, w7, a8, _, rfl, w8, a9, _, rfl, w9, a10, _, rfl, w10, b11, _, rfl, rfl⟩ := leaves_of 3 hg hl
 have hm : maxLen = 9223372036854775807 := rfl
 obtain ⟨A, c, us, rfl, hu, q1, q2, hw⟩ := GoodS.arr (enc := zEnc) (sz := 1) (by kernel_rfl) (by decide) g2 intc_of
 exact ⟨⟨⟨a0, a1, us, a3, a4, b5, a6, a7, a8, a9, a10, b11⟩, A, c⟩, rfl, hu, by show us.length < _; omega, ⟨wf_i64 w0, wf_i64 w1, hw, wf_i64 w3, wf_i64 w4, wf_i64 w6, wf_i64 w7, wf_i64 w8, wf_i64 w9, wf_i64 w10⟩⟩
section
variable {h0 h : Heap} {l : List HP}
theorem Theirs15_ok (x : CmdV) (ha : ∀ h', St h0 h' l → Arr zEnc 1 h' x.A x.c.us) (l1 : x.c.us.length < 1000000) (S : St h0 h l) :
  CallsH Tryz.prog 10 [.agg x.enc.toArray] h fun v h' => ∃ y : CmdV, v = .agg y.enc.toArray ∧ y.c = x.c ∧ St h0 h' (ownA zEnc 1 3 (.slice y.A y.c.us.length y.n) y.c.us :: l) := by
 refine EN i10.eq_1 fun K hK => Wa ?_
 (revert S; (try clear F); refine AL fun b h S F => ?_)
 refine Wa ?_
 (revert S; (try clear F); refine AL fun g h S F => ?_)
 refine Wc F @CmdV.enc.eq_1 ?_
 (revert S; (try clear F); refine AL fun t h S F => ?_)
 refine Wa ?_
 (revert S; (try clear F); refine ST fun h S F => ?_)
 refine Wa ?_
 (revert S; (try clear F); refine AL fun e h S F => ?_)
 have S := S.cellOwn (enc := zEnc) (sz := 1) (ys := []) zEl rfl (by decide)
 ((try clear F); have F := S.fx)
 refine Wc F @CmdV.enc.eq_1 ?_
 refine tAp (bytes := 8) (ys := x.c.us) zEl (by omega) zEp rfl S rfl (src_arr zEl (ha _ S.tl.tl.tl.tl) rfl) (by simp; omega) (by simp; omega) ?_
 clear S F
 intro v h S
 rw [l_k] at S
 obtain ⟨A, c, rfl⟩ := S.sl
 refine Wa ?_
 (revert S; (try clear F); refine ST fun h S F => ?_)
 refine Wb F ?_
 refine tS S.p2 rfl rfl (l_a rfl) ?_
 clear S F
 intro h S
 replace S := S.nm
 ((try clear F); have F := S.fx)
 refine Wb F ?_
 exact hK _ _ ⟨⟨x.c, A, c⟩, rfl, rfl, S.tl.tl.p1.tl⟩
end
theorem cArr {h : Heap} {A : Option Addr} : Arr zEnc 1 h A [] := fun i hi => absurd hi (by simp)
def c7 : Cmd := ⟨7, 0, [], 0, 0, false, 0, 0, 0, 3, 0, false⟩
theorem c7_formed : c7.formed := by
 refine ⟨?_, ?_⟩
 ·unfold Cmd.fits c7 btw
  simp
 ·unfold Cmd.bare Cmd.nought c7
  simp
theorem take_c7 {D : Cfg} : (takeP D (unitsAll c0C) (sagNew c0C) c7).2.2.1 = 0 ∧ (takeP D (unitsAll c0C) (sagNew c0C) c7).2.2.2.now = 3 := by
 unfold takeP
 rw [if_neg (by rw [dT c7_formed]; decide)]
 have : doP D (unitsAll c0C) ⟨sagNew c0C, []⟩ c7 = (tickP D.ss (unitsAll c0C) ⟨sagNew c0C, []⟩ 3).map fun x => (0, x.2, x.1) := rfl
 rw [this]
 have : tickP D.ss (unitsAll c0C) ⟨sagNew c0C, []⟩ 3 = .ok ({ (⟨sagNew c0C, []⟩ : Wk) with s := { sagNew c0C with now := 3 } }, []) := rfl
 rw [this]
 exact ⟨rfl, rfl⟩
theorem new_wf {C : Cfg} : (sagNew C).wf (unitsAll C) 0 := by
 refine ⟨?_, Nat.zero_le _, fun r hr => absurd hr (by simp [sagNew]), good_nil, fun r hr => absurd hr (by simp [sagNew]), Nat.zero_le _, fun r hr => absurd hr (by simp [sagNew]), ?_, Nat.zero_le _, ?_⟩
 ·show (stkOf ((unitsAll C).map Unt.sku) ((unitsAll C).map atOf)).length = (unitsAll C).length
  simp [stkOf]
 ·exact ⟨by show (1 : Int) ≤ 1; decide, by show (1 : Int) ≤ 8589934592 + 0; decide⟩
 ·exact ⟨by show (0 : Int) ≤ 0; decide, by show (0 : Int) ≤ 100000; decide⟩
theorem SNow_ok {h0 h : Heap} {l : List HP} {p : Nat} {D : Cfg} {u : Value} {s : Sag} (S : St h0 h (sagaA p D u s :: l)) : CallsH Tryz.prog 23 [.pointer (some ⟨p, 0, none⟩)] h fun v h' => v = .int .i64 s.now ∧ h' = h := by
 obtain ⟨k, t, o, rs, S⟩ := St.saga.1 S
 refine EN i23.eq_1 fun K hK => Wa ?_
 ((try clear F); have F := S.fx)
 refine Wc F @sagE.eq_1 ?_
 exact hK _ _ ⟨rfl, rfl⟩
theorem awake16_ok (h : Heap) : CallsH Tryz.prog 6 [] h fun v h' => v = .bool true ∧ Fr h h' [] := by
 have S := St.nil h
 refine EN i6.eq_1 fun K hK => Wa ?_
 refine cI (NewS_ok c0C (fun h' S => ⟨Arr.nil _ _ _ _, (fun o ho => by cases ho), Arr.nil _ _ _ _, Arr.nil _ _ _ _⟩) ⟨by decide, by decide, by decide, by decide, by decide, by decide, fun o ho => by cases ho⟩ (by decide) (by decide) (by decide) (fun o ho => by cases ho) S) ?_
 clear S
 rintro _ h (⟨hn, _⟩ | ⟨_, p, D, u, rfl, hw, hp, S⟩)
 ·exact (hn c0_ok).elim
 obtain ⟨_, A, c, rfl, _⟩ := stcA_rd S.p1
 have hU : unitsAll c0C = [] := rfl
 have hD : Stc D (unitsAll c0C) := ⟨okCfg_pu hp.symm c0_ok, (by rw [hU]; intro u hu; cases hu), (by rw [hU]; intro u hu; cases hu), by rw [hU]; exact Nat.zero_le _⟩
 refine Wa ?_
 refine cI (Theirs15_ok ⟨c7, none, 0⟩ (fun h' S => cArr) (by decide) S) ?_
 clear S
 rintro _ h ⟨y, rfl, hy, S⟩
 refine Wa ?_
 have hi : y.c.i64 := by rw [hy]; exact ⟨by unfold I64 c7; decide, by unfold I64 c7; decide, fun u hu => absurd hu (by simp [c7]), by unfold I64 c7; decide, by unfold I64 c7; decide, by unfold I64 c7; decide, by unfold I64 c7; decide, by unfold I64 c7; decide, by unfold I64 c7; decide, by unfold I64 c7; decide⟩
 refine cI (Take_ok y (cu := c) (Au := A) (U := unitsAll c0C) (by simp) (fun h' S => by rw [hy]; exact cArr) (by rw [hy]; decide) hi hD S.p1 new_wf (by decide)) ?_
 clear S
 rintro _ h ⟨sl, rfl, S⟩
 rw [hy] at S ⊢
 obtain ⟨t1, t2⟩ := take_c7 (D := D)
 generalize takeP D (unitsAll c0C) (sagNew c0C) c7 = Y at *
 refine Wb t1 ?_
 refine cI (SNow_ok S.p1) ?_
 rintro _ h ⟨rfl, rfl⟩
 rw [t2]
 refine Wa ?_
 exact hK _ _ ⟨rfl, S.fr⟩
end
section
set_option maxHeartbeats 8000000
def fewS (C : Cfg) (xs : List CmdV) (n : Nat) : Prop := xs.length ≤ n ∧ (∀ x ∈ xs, x.c.us.length ≤ 100) ∧ fewC C
theorem FewS_ok {h0 : Heap} {A : Option Addr} {c : Nat} (C : Cfg) (xs : List CmdV) (n : Nat) (hn : n < 1000) (hl : xs.length < 9223372036854775808) (r : C.rd h0) (w : C.wf) (ha : Arr CmdV.enc 12 h0 A xs) :
  CallsH Tryz.prog 7 [.agg C.enc.toArray, .slice A xs.length c, .int .i64 n] h0 fun v h' => v = .bool (dcd (fewS C xs n)) ∧ Fr h0 h' [] := by
 have S := St.nil h0
 refine EN i7.eq_1 fun K hK => Wa ?_
 (revert S; (try clear F); refine AL fun g h S F => ?_)
 refine Wa ?_
 refine lI (fun ρ h' => ρ 1 = .slice A xs.length c ∧ ρ 2 = .int .i64 n ∧ ρ 3 = .pointer (some ⟨g, 0, none⟩) ∧ ρ 9 = .int .i64 xs.length ∧ ∃ i : Nat, ρ 10 = .int .i64 i ∧ i ≤ xs.length ∧ i ≤ n ∧ (∀ x ∈ xs.take i, x.c.us.length ≤ 100) ∧ St h0 h' [cellA g C.enc 26]) (fun ρ _ => xs.length - (iv (ρ 10)).toNat) ?_ ?_
 ·refine Wa ?_
  exact ⟨0, rfl, by omega, by omega, fun x hx => absurd hx (by simp), S⟩
 clear S F
 rintro ρ h J hJ ⟨e1, e2, e3, e9, i, e10, hi, hin, hp, S⟩
 ((try clear F); have F := S.fx)
 refine Wc e9 e10 ?_
 refine cD (fun hlt => ?_) (fun hlt => ?_)
 ·have hil : i < xs.length := by omega
  by_cases h1 : (n : Int) ≤ i
  ·refine Wd e2 e10 h1 ?_
   exact hK _ _ ⟨by rw [dF (fun h => by have := h.1; omega)], S.fr⟩
  obtain ⟨b, o, rfl, q⟩ := (ha.fr S.fr (by simp)).at hil
  have q := rP q 2 (by omega)
  simp only [CmdV.enc, l_o, l_p] at q
  by_cases h2 : (100 : Int) < (xs[i].c.us.length : Int)
  ·refine Wg e1 e2 e10 h1 q h2 ?_
   exact hK _ _ ⟨by rw [dF (fun h => by have := h.2.1 _ (l_v hil); omega)], S.fr⟩
  refine Wg e1 e2 e10 h1 q h2 ?_
  refine hJ _ _ ?_ ?_
  ·refine We e1 e2 e3 e9 ?_
   refine ⟨i + 1, rfl, by omega, by omega, fun x hx => ?_, S⟩
   rw [l_t hil] at hx
   rcases List.mem_append.1 hx with hx | hx
   ·exact hp x hx
   ·rw [List.mem_singleton.1 hx]; omega
  ·refine Wb e10 ?_
   omega
 obtain rfl : i = xs.length := by omega
 rw [l_aj] at hp
 refine Wc e3 F ?_
 refine cI (Few_ok C (r.fr S.fr) w) ?_
 rintro _ h ⟨rfl, f1⟩
 refine Wa ?_
 exact hK _ _ ⟨congrArg _ (by
  by_cases hf : fewC C
  ·rw [dT hf, dT ⟨hin, hp, hf⟩]
  ·rw [dF hf, dF (fun h => hf h.2.2)]), (S.frame f1).fr⟩
end
theorem addS_cat {sg : Int} {sh : List Int} {U : List Unt} (h : ∀ u ∈ U, 0 ≤ u.cat) : ∀ u ∈ addS sg sh U, 0 ≤ u.cat := by
 intro u hu
 unfold addS at hu
 obtain ⟨i, hi, rfl⟩ := l_af hu
 simp only [List.getElem_zipWith]
 exact h (U[i]'(by rw [List.length_zipWith] at hi; omega)) (l_v _)
theorem unitsR_cat {o : Odr} {k : Int} (ho : ∀ l ∈ o.ls, okLine k l) (i : Int) : ∀ r, ∀ u ∈ unitsR o i r, 0 ≤ u.cat
 | 0 => by
  intro u hu
  obtain ⟨x, hx, hu⟩ := List.mem_flatMap.1 hu
  rw [(List.mem_replicate.1 hu).2]
  exact (ho x hx).2.1
 | r + 1 => addS_cat (unitsR_cat ho i r)
theorem ordsU_cat {k : Int} : ∀ {os : List Odr} (i : Nat), (∀ o ∈ os, okOrder k o) → ∀ u ∈ ordsU i os, 0 ≤ u.cat
 | [], _, _, u, hu => by cases hu
 | o :: os, i, h, u, hu => by
  rcases List.mem_append.1 hu with hu | hu
  ·exact unitsR_cat (h o (by simp)).2.1 _ _ u hu
  ·exact ordsU_cat (i + 1) (fun x hx => h x (by simp [hx])) u hu
theorem units_cat {C : Cfg} (hok : okCfg C) : ∀ u ∈ unitsAll C, 0 ≤ u.cat := fun u hu => by
 rcases List.mem_append.1 hu with hu | hu
 ·exact ordsU_cat 0 hok.2.2.2.1 u hu
 ·obtain ⟨x, _, hu⟩ := List.mem_flatMap.1 hu
  rw [(List.mem_replicate.1 hu).2]
  exact Int.le_refl _
theorem stc_new {C D : Cfg} (hp : D.pu = C.pu) (hok : okCfg C) : Stc D (unitsAll C) := ⟨okCfg_pu hp.symm hok, units_nn hok, units_cat hok, (unitsAll_len hok).2⟩
section
set_option maxHeartbeats 32000000
theorem St.gen {h0 h : Heap} {l : List HP} {P : Prop} (S : St h0 h l) (k : ∀ L, L = l → St h0 h L → P) : P := k l rfl S
theorem SagaUnits_ok (C : Cfg) (A : Option Addr) (c : Nat) (xs : List CmdV) (h0 : Heap) (hC : C.ok h0) (ha : Arr CmdV.enc 12 h0 A xs) (hl : xs.length ≤ c) (hcm : c ≤ maxLen) (hx : ∀ x ∈ xs, x.ok h0) :
  CallsH Tryz.prog 5 [.agg C.enc.toArray, .slice A xs.length c] h0 fun v h' => v = .bool true ∧ Fr h0 h' [] := by
 have hm : maxLen = 9223372036854775807 := rfl
 obtain ⟨r, w⟩ := hC
 have S := St.nil h0
 have r' : ∀ {l : List HP} (h' : Heap), St h0 h' l → C.rd h' := fun h' S => r.fr S.fr
 refine EN i5.eq_1 fun K hK => Wa ?_
 (revert S; (try clear F); refine AL fun g h S F => ?_)
 refine Wa ?_
 refine cF S (awake16_ok _) fun h S => ?_
 ((try clear F); have F := S.fx)
 refine Wb F ?_
 refine cF S (FewS_ok C xs 80 (by omega) (by omega) (r' _ S) w (ha.fr S.fr (by simp))) fun h S => ?_
 by_cases hf : fewS C xs 80
 case neg =>
  rw [dF hf]
  refine Wa ?_
  refine cF S (awake16_ok _) fun h S => ?_
  refine Wa ?_
  exact hK _ _ ⟨rfl, S.fr⟩
 rw [dT hf]
 ((try clear F); have F := S.fx)
 refine Wb F ?_
 obtain ⟨hxl, hxu, f1, f2, f3, f4⟩ := hf
 have f4' : ∀ o ∈ C.os, o.ls.length < 1000000 := fun o ho => by have := f4 o ho; omega
 refine cF S (RightConfig_ok C (r' _ S) (by omega) (by omega) (by omega) f4') fun h S => ?_
 by_cases hok : okCfg C
 case neg =>
  rw [dF hok]
  refine Wa ?_
  refine cF S (awake16_ok _) fun h S => ?_
  refine Wa ?_
  exact hK _ _ ⟨rfl, S.fr⟩
 rw [dT hok]
 ((try clear F); have F := S.fx)
 refine Wb F ?_
 refine cI (NewS_ok C (fun h' S => r' h' S) w (by omega) (by omega) (by omega) f4' S) ?_
 clear S F
 rintro _ h (⟨hn, _⟩ | ⟨_, p, D, u, rfl, hw, hp, S⟩)
 ·exact (hn hok).elim
 obtain ⟨_, Au, cu, rfl, _⟩ := stcA_rd S.p1
 have hD := stc_new hp hok
 have W0 : (sagNew C).wf (unitsAll C) 0 := new_wf
 have I0 := new_inv hD
 have S := S.p2
 ((try clear F); have F := S.fx)
 refine Wb F ?_
 refine cI (RUnits_ok C (fun h' S => r' h' S) hok S) ?_
 clear S F
 intro v h S
 obtain ⟨U, hU⟩ : ∃ U, U = unitsAll C := ⟨_, rfl⟩
 rw [← hU] at S hD W0 I0
 have hul := hD.ul
 generalize sagNew C = s at *
 obtain ⟨Bu, du, rfl⟩ := S.sl
 refine Wa ?_
 refine lI (fun ρ h' => ρ 1 = .slice A xs.length c ∧ ρ 5 = .pointer (some ⟨p, 0, none⟩) ∧ ρ 7 = .slice Bu U.length du ∧ ρ 41 = .int .i64 xs.length ∧ ∃ i : Nat, ρ 42 = .int .i64 i ∧ i ≤ xs.length ∧ ∃ s : Sag, s.wf U (i * 201) ∧ Inv D U ⟨s, []⟩ 1000 0 ∧
  St h0 h' (sagaA p D (.slice Au U.length cu) s :: stcA D (.slice Au U.length cu) U :: ownA Unt.enc 4 67 (.slice Bu U.length du) U :: [cellA g C.enc 26])) (fun ρ _ => xs.length - (iv (ρ 42)).toNat) ?_ ?_
 ·refine Wa ?_
  exact ⟨0, rfl, by omega, s, by simpa using W0, I0, by (exact PM S) ⟩
 clear S I0 W0
 rintro ρ h J hJ ⟨e1, e5, e7, e41, i, e42, hi, s, W, I, S⟩
 refine Wc e41 e42 ?_
 refine cD (fun hlt => ?_) (fun hlt => ?_)
 rotate_left
 ·refine Wa ?_
  exact hK _ _ ⟨rfl, S.fr⟩
 have hil : i < xs.length := by omega
 have hxi := hx _ (l_v hil)
 have hui := hxu _ (l_v hil)
 obtain ⟨b, o, rfl, q⟩ := (ha.fr S.fr (by simp)).at hil
 generalize xs[i] = x at *
 refine We e1 e5 e42 q ?_
 refine cI (Theirs15_ok x (fun h' S => hxi.us.fr S.fr (by simp)) (by omega) S) ?_
 clear S q
 rintro _ h ⟨y, rfl, hy, S⟩
 have hyi : y.c.i64 := by rw [hy]; exact hxi.i64
 refine Wa ?_
 refine cI (Take_ok y (Au := Au) (cu := cu) (U := U) (l := ownA zEnc 1 3 (.slice y.A y.c.us.length y.n) y.c.us :: stcA D (.slice Au U.length cu) U :: ownA Unt.enc 4 67 (.slice Bu U.length du) U :: [cellA g C.enc 26]) (by simp) (fun h' S => S.arr zEl) (by rw [hy]; omega) hyi hD (by (exact PM S) ) W (by omega)) ?_
 clear S
 rintro _ h ⟨sl, rfl, S⟩
 have W1 := take_wf (D := D) (c := y.c) hD.ul W
 have I1 := take_inv (c := y.c) hD I W
 generalize (takeP D U s y.c).2.2.2 = s' at *
 have S := S.tl.d1
 have hkl : s'.K.length = U.length := W1.kl
 have hrl : s'.R.length ≤ 100 := W1.rl
 refine Wb e5 ?_
 refine cI (StockS_ok S (by omega)) ?_
 clear S
 rintro _ h ⟨k, rfl, S⟩
 refine Wb e5 ?_
 refine cI (RMAs_ok S.p1 (by omega) (fun r hr => by have := Wk.wf.len W1 r hr; omega)) ?_
 clear S
 intro v h S
 obtain ⟨vs, hvs, S⟩ := St.rmas.1 S
 have hvl : vs.length = s'.R.length := by rw [← hvs, l_z]
 obtain ⟨Bv, dv, rfl⟩ := S.sl
 have hend : ∀ ρ' h, ρ' 1 = .slice (some ⟨b, o, none⟩) xs.length c → ρ' 5 = .pointer (some ⟨p, 0, none⟩) → ρ' 7 = .slice Bu U.length du → ρ' 41 = .int .i64 xs.length → ρ' 42 = .int .i64 (i + 1) →
   St h0 h (ownA RetV.enc 14 59 (.slice Bv vs.length dv) vs :: (vs.map retRow ++ (sagaA p D (.slice Au U.length cu) s' :: stockA k s'.K :: stcA D (.slice Au U.length cu) U :: ownA Unt.enc 4 67 (.slice Bu U.length du) U :: [cellA g C.enc 26]))) → J ρ' h := by
  intro ρ' h d1 d5 d7 d41 d42 S
  refine hJ _ _ ?_ ?_
  ·exact ⟨d1, d5, d7, d41, i + 1, d42, by omega, s', by rw [show (i + 1) * 201 = i * 201 + 201 by omega]; exact W1, I1, S.tl.dropL.d1⟩
  ·refine Wc d42 e42 ?_
   omega
 refine S.gen fun L hL S => ?_
 rw [← hL] at hend
 have hK' : ∀ {h' : Heap}, St h0 h' L → ∃ M, St h0 h' (stockA k s'.K :: M) := fun S => st_mem S (by rw [hL]; simp)
 refine Wa ?_
 refine lI (fun ρ h' => ρ 1 = .slice (some ⟨b, o, none⟩) xs.length c ∧ ρ 5 = .pointer (some ⟨p, 0, none⟩) ∧ ρ 7 = .slice Bu U.length du ∧ ρ 9 = .pointer (some ⟨k, 0, none⟩) ∧ ρ 10 = .slice Bv vs.length dv ∧ ρ 41 = .int .i64 xs.length ∧ ρ 42 = .int .i64 i ∧ ∃ n : Nat, ρ 56 = .int .i64 n ∧ n ≤ 9 ∧ ρ 11 = .int .i64 (cntTo s'.K n : Nat) ∧ cntTo s'.K n ≤ n * 200 ∧ St h0 h' L) (fun ρ _ => 9 - (iv (ρ 56)).toNat) ?_ ?_
 ·refine Wf e1 e5 e7 e41 e42 ?_
  exact ⟨0, rfl, by omega, rfl, by simp [cntTo], S⟩
 have o42 := e42
 clear S e1 e5 e7 e41 e42
 rintro ρ h J2 hJ2 ⟨e1, e5, e7, e9, e10, e41, e42, n, e56, hn, e11, hcl, S⟩
 refine Wb e56 ?_
 refine cD (fun hlt2 => ?_) (fun hlt2 => ?_)
 ·obtain ⟨M, S1⟩ := hK' S
  refine Wd e9 e11 e56 ?_
  refine cF S (CountK_ok n S1 (by omega)) fun h S => ?_
  clear S1
  have hc := cntK_le s'.K n
  refine Wb e56 ?_
  refine hJ2 _ _ ?_ ?_
  ·refine Wh e1 e5 e7 e9 e10 e41 e42 ?_
   exact ⟨n + 1, rfl, by omega, by simp only [cntTo]; rfl, by simp only [cntTo]; omega, S⟩
  ·refine Wb e56 ?_
   omega
 obtain rfl : n = 9 := by omega
 have hall : cntTo s'.K 9 = U.length := by
  rw [cntTo_all, hkl]
  intro u hu
  obtain ⟨j, hj, rfl⟩ := l_af hu
  have := (I1.flg j hj).1
  rw [l_s, l_r hj] at this
  exact this
 rw [hall] at e11
 obtain ⟨M, S1⟩ := hK' S
 refine Wd e7 e9 e11 ?_
 refine cE (LenK_ok S1) ?_
 rw [hkl]
 clear S1
 refine Wb e7 ?_
 refine lI (fun ρ h' => ρ 1 = .slice (some ⟨b, o, none⟩) xs.length c ∧ ρ 5 = .pointer (some ⟨p, 0, none⟩) ∧ ρ 7 = .slice Bu U.length du ∧ ρ 9 = .pointer (some ⟨k, 0, none⟩) ∧ ρ 10 = .slice Bv vs.length dv ∧ ρ 41 = .int .i64 xs.length ∧ ρ 42 = .int .i64 i ∧ ρ 77 = .int .i64 U.length ∧ ∃ n : Nat, ρ 78 = .int .i64 n ∧ n ≤ U.length ∧ St h0 h' L) (fun ρ _ => U.length - (iv (ρ 78)).toNat) ?_ ?_
 ·refine Wh e1 e5 e7 e9 e10 e41 e42 ?_
  exact ⟨0, rfl, by omega, S⟩
 clear S e1 e5 e7 e9 e10 e11 e41 e42 e56 hJ2
 rintro ρ h J3 hJ3 ⟨e1, e5, e7, e9, e10, e41, e42, e77, n, e78, hn, S⟩
 refine Wc e77 e78 ?_
 refine cD (fun hlt3 => ?_) (fun hlt3 => ?_)
 rotate_left
 ·refine Wb e42 ?_
  refine hend _ _ ?_ ?_ ?_ ?_ ?_ S <;> ((refine We e1 e5 e7 e41 ?_); trivial)
 have hnl : n < s'.K.length := by omega
 have hnu : n < U.length := by omega
 obtain ⟨M, S1⟩ := hK' S
 have hfl := I1.flg n hnl
 have hone := held_one I1 hnl
 have hun : (untAt U n).ord = U[n].ord := by simp [untAt, l_s, hnu]
 have hsee : seenK s'.K n = ((s'.K.getD n KU0).recv, (s'.K.getD n KU0).grad) := by simp [seenK, l_s, hnl]
 have hpl : placeK s'.K n = (s'.K.getD n KU0).place := place_at hnl
 have S2 := S
 rw [hL] at S2
 obtain ⟨b2, o2, hB2, q2⟩ := (S2.tl.dropL.p3.arr Unt.enc_len).at hnu
 have q2 := rP0 q2 (by omega)
 simp only [Unt.enc, l_o] at q2
 clear S2
 refine Wc e9 e78 ?_
 refine cE (SeenK_ok n S1) ?_
 rw [hsee]
 refine Wc e9 e78 ?_
 refine cE (PlaceK_ok n S1) ?_
 clear S1
 generalize hple : placeK s'.K n = pl at *
 unfold flagI at hfl
 rw [hun] at hfl
 simp only at hfl
 have hc : ¬ 0 ≤ U[n].ord ∨ 0 ≤ U[n].ord ∧ ¬ 3 ≤ pl ∨ 0 ≤ U[n].ord ∧ 3 ≤ pl ∧ ¬ pl ≤ 5 ∨ 0 ≤ U[n].ord ∧ 3 ≤ pl ∧ pl ≤ 5 ∧ (s'.K.getD n KU0).recv = true ∧ (s'.K.getD n KU0).grad = true := by
  obtain ⟨_, _, h3, h4⟩ := hfl
  rw [← hpl] at h4
  by_cases c1 : 0 ≤ U[n].ord
  ·by_cases c2 : 3 ≤ pl
   ·by_cases c3 : pl ≤ 5
    ·have := h4 c1 (.inl ⟨c2, c3⟩)
     exact .inr (.inr (.inr ⟨c1, c2, c3, h3 this, this⟩))
    ·exact .inr (.inr (.inl ⟨c1, c2, c3⟩))
   ·exact .inr (.inl ⟨c1, c2⟩)
  ·exact .inl c1
 have hheld : (s'.R.filter (heldB n pl)).length = (vs.filter fun v => heldB n pl v.r).length := by
  rw [← hvs, List.filter_map, l_z]
  rfl
 have hone : (vs.filter fun v => heldB n pl v.r).length = 1 ↔ pl = 7 := by rw [← hheld]; exact hone
 generalize (s'.K.getD n KU0).recv = rc at *
 generalize (s'.K.getD n KU0).grad = gr at *
 generalize U[n].ord = od at *
 have hgo : ∀ ρ' h, ρ' 1 = .slice (some ⟨b, o, none⟩) xs.length c → ρ' 5 = .pointer (some ⟨p, 0, none⟩) → ρ' 7 = .slice Bu U.length du → ρ' 9 = .pointer (some ⟨k, 0, none⟩) → ρ' 10 = .slice Bv vs.length dv → ρ' 41 = .int .i64 xs.length → ρ' 42 = .int .i64 i → ρ' 77 = .int .i64 U.length → ρ' 78 = .int .i64 (n + 1) → St h0 h L → J3 ρ' h := by
  intro ρ' h d1 d5 d7 d9 d10 d41 d42 d77 d78 S
  refine hJ3 _ _ ⟨d1, d5, d7, d9, d10, d41, d42, d77, n + 1, d78, by omega, S⟩ ?_
  refine Wc d78 e78 ?_
  omega
 clear hfl hheld hpl hun hsee
 rcases hc with hc | hc | hc | hc <;>
 ((refine Wg e7 e10 e78 hB2 q2 hc ?_)
  refine lI (fun ρ h' => ρ 1 = .slice (some ⟨b, o, none⟩) xs.length c ∧ ρ 5 = .pointer (some ⟨p, 0, none⟩) ∧ ρ 7 = .slice Bu U.length du ∧ ρ 9 = .pointer (some ⟨k, 0, none⟩) ∧ ρ 10 = .slice Bv vs.length dv ∧ ρ 13 = .int .i64 n ∧ ρ 16 = .int .i64 pl ∧ ρ 41 = .int .i64 xs.length ∧ ρ 42 = .int .i64 i ∧ ρ 77 = .int .i64 U.length ∧ ρ 78 = .int .i64 n ∧ ρ 112 = .int .i64 vs.length ∧ ∃ j : Nat, ρ 113 = .int .i64 j ∧ j ≤ vs.length ∧ ρ 17 = .int .i64 (((vs.take j).filter fun v => heldB n pl v.r).length : Nat) ∧ St h0 h' L) (fun ρ _ => vs.length - (iv (ρ 113)).toNat) ?_ ?_
  ·refine Wi e1 e5 e7 e9 e10 e41 e42 (Pc e77 e78) ?_
   exact ⟨0, rfl, by omega, rfl, S⟩
  have o78 := e78
  clear S e1 e5 e7 e9 e10 e41 e42 e77 e78 q2
  rintro ρ h J4 hJ4 ⟨e1, e5, e7, e9, e10, e13, e16, e41, e42, e77, e78, e112, j, e113, hj, e17, S⟩
  refine Wc e112 e113 ?_
  refine cD (fun hlt4 => ?_) (fun hlt4 => ?_)
  ·have hjl : j < vs.length := by omega
   have S2 := S
   rw [hL] at S2
   obtain ⟨b3, o3, hB3, q3⟩ := (S2.arr RetV.enc_len).at hjl
   clear S2
   have hsn : ((vs.take (j + 1)).filter fun v => heldB n pl v.r).length = ((vs.take j).filter fun v => heldB n pl v.r).length + if heldB n pl vs[j].r = true then 1 else 0 := by
    rw [l_t hjl, List.filter_append, l_m]
    by_cases h : heldB n pl vs[j].r = true <;> simp [h]
   have hfl := List.length_filter_le (fun v : RetV => heldB n pl v.r) (vs.take j)
   rw [l_ad] at hfl
   generalize vs[j] = z at *
   have z4 := rP q3 4 (by omega)
   simp only [RetV.enc, l_o, l_p] at z4
   have hgo2 : ∀ ρ' h, ρ' 1 = .slice (some ⟨b, o, none⟩) xs.length c → ρ' 5 = .pointer (some ⟨p, 0, none⟩) → ρ' 7 = .slice Bu U.length du → ρ' 9 = .pointer (some ⟨k, 0, none⟩) → ρ' 10 = .slice Bv vs.length dv → ρ' 13 = .int .i64 n → ρ' 16 = .int .i64 pl → ρ' 41 = .int .i64 xs.length → ρ' 42 = .int .i64 i → ρ' 77 = .int .i64 U.length → ρ' 78 = .int .i64 n → ρ' 112 = .int .i64 vs.length → ρ' 113 = .int .i64 (j + 1) → ρ' 17 = .int .i64 ((((vs.take j).filter fun v => heldB n pl v.r).length : Nat) + if heldB n pl z.r = true then 1 else 0) → St h0 h L → J4 ρ' h := by
    intro ρ' h d1 d5 d7 d9 d10 d13 d16 d41 d42 d77 d78 d112 d113 d17 S
    refine hJ4 _ _ ⟨d1, d5, d7, d9, d10, d13, d16, d41, d42, d77, d78, d112, j + 1, d113, by omega, by rw [d17, hsn]; split <;> rfl, S⟩ ?_
    refine Wc d113 e113 ?_
    omega
   by_cases b1 : z.r.res = n
   case neg =>
    have hb : heldB n pl z.r = false := decide_eq_false fun h => b1 h.1
    refine Wh e10 e13 e16 e113 hB3 z4 b1 ?_
    rw [hb] at hgo2
    refine hgo2 _ _ ?_ ?_ ?_ ?_ ?_ ?_ ?_ ?_ ?_ ?_ ?_ ?_ ?_ ?_ S <;> ((refine Wi e1 e5 e7 e9 e10 e13 e16 (Pf e17 e41 e42 e77 (Pc e78 e112)) ?_); trivial)
   refine Wh e10 e13 e113 hB3 z4 q3 b1 ?_
   refine cF S (RDone_ok z _) fun h S => ?_
   by_cases b2 : doneR z.r
   ·have hb : heldB n pl z.r = false := decide_eq_false fun h => h.2.1 b2
    rw [dT b2]
    refine Wc e16 e113 ?_
    rw [hb] at hgo2
    refine hgo2 _ _ ?_ ?_ ?_ ?_ ?_ ?_ ?_ ?_ ?_ ?_ ?_ ?_ ?_ ?_ S <;> ((refine Wi e1 e5 e7 e9 e10 e13 e16 (Pf e17 e41 e42 e77 (Pc e78 e112)) ?_); trivial)
   rw [dF b2]
   by_cases b3 : pl = 7
   ·have hb : heldB n pl z.r = true := decide_eq_true ⟨b1, b2, b3⟩
    refine We e16 e17 e113 b3 ?_
    rw [hb, b3] at hgo2
    rw [b3] at e16 hfl
    refine hgo2 _ _ ?_ ?_ ?_ ?_ ?_ ?_ ?_ ?_ ?_ ?_ ?_ ?_ ?_ ?_ S <;> ((refine Wi e1 e5 e7 e9 e10 e13 e16 (Pf e17 e41 e42 e77 (Pc e78 e112)) ?_); trivial)
   ·have hb : heldB n pl z.r = false := decide_eq_false fun h => b3 h.2.2
    refine Wd e16 e113 b3 ?_
    rw [hb] at hgo2
    refine hgo2 _ _ ?_ ?_ ?_ ?_ ?_ ?_ ?_ ?_ ?_ ?_ ?_ ?_ ?_ ?_ S <;> ((refine Wi e1 e5 e7 e9 e10 e13 e16 (Pf e17 e41 e42 e77 (Pc e78 e112)) ?_); trivial)
  obtain rfl : j = vs.length := by omega
  rw [l_aj] at e17
  generalize (vs.filter fun v => heldB n pl v.r).length = ct at *
  have hone' : ((ct : Nat) : Int) = 1 ↔ pl = 7 := by omega
  by_cases b3 : pl = 7
  ·have b4 : ((ct : Nat) : Int) = 1 := hone'.2 b3
   refine Wf e16 e17 e78 b3 b4 ?_
   refine hgo _ _ ?_ ?_ ?_ ?_ ?_ ?_ ?_ ?_ ?_ S <;> ((refine Wi e1 e5 e7 e9 e10 e41 e42 e77 ?_); trivial)
  ·have b4 : ¬ ((ct : Nat) : Int) = 1 := fun h => b3 (hone'.1 h)
   refine Wf e16 e17 e78 b3 b4 ?_
   refine hgo _ _ ?_ ?_ ?_ ?_ ?_ ?_ ?_ ?_ ?_ S <;> ((refine Wi e1 e5 e7 e9 e10 e41 e42 e77 ?_); trivial))
end
end Go.Proofs.YtcgbhcgfdcfmaaaGreat.MX
