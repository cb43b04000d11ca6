import Derived.Test.YtijnkebgciaieaaGreatK40
import Derived.Test.YtijnkebgciaieaaGreatK27
import Derived.Test.YtijnkebgciaieaaGreatK23
namespace Go.Proofs.YtijnkebgciaieaaGreat.MX
open Go Go.Proofs
set_option linter.unusedSimpArgs false
set_option linter.unusedVariables false
section
set_option maxHeartbeats 8000000
def resD (h0 : Heap) (L : Loc) (D : Cfg) (u : Value) (l : List HP) (x : Except Int (Int × List Msg × Wk)) (v : Value) (h' : Heap) : Prop := match x with
 | .error e => e ≠ 0 ∧ ∃ (n : Int) (sl : Value), v = .tuple #[.int .i64 n, sl, .int .i64 e] ∧ St h0 h' l
 | .ok y => ∃ A c sl, v = .tuple #[.int .i64 y.1, sl, .int .i64 0] ∧ St h0 h' (ownA Msg.enc 6 110 sl y.2.1 :: wkA { L with A := A, c := c } D u y.2.2 :: l)
section
variable {h0 h : Heap} {l : List HP} {p : Nat} {D : Cfg} {u : Value} {s : Sag} {U : List Unt} {m : Nat} {w : Wk} {L : Loc} {Au : Option Addr} {cu : Nat}
theorem resE_D {x : Except Int Wk} {v : Value} (hv : resE h0 L D u l x v h) : resD h0 L D u l (x.map fun w => (0, [], w)) (.tuple #[.int .i64 0, .slice none 0 0, v]) h := by
 cases x with
 | error e =>
  obtain ⟨he, rfl, S⟩ := hv
  exact ⟨he, 0, _, rfl, S⟩
 | ok w =>
  obtain ⟨rfl, S⟩ := hv
  exact ⟨L.A, L.c, _, rfl, S.nilS⟩
theorem resE_int {x : Except Int Wk} {v : Value} (hv : resE h0 L D u l x v h) : ∃ n, v = .int .i64 n := by
 cases x with
 | error e => exact ⟨_, hv.2.1⟩
 | ok w => exact ⟨_, hv.1⟩
theorem resT_D {x : Except Int (Wk × List Msg)} {v : Value} (hv : resT h0 L D u l x v h) : ∃ (s : Value) (e : Int), v = .tuple #[s, .int .i64 e] ∧ resD h0 L D u l (x.map fun x => (0, x.2, x.1)) (.tuple #[.int .i64 0, s, .int .i64 e]) h := by
 cases x with
 | error e =>
  obtain ⟨he, rfl, S⟩ := hv
  exact ⟨_, _, rfl, he, 0, _, rfl, S⟩
 | ok w =>
  obtain ⟨s, rfl, S⟩ := hv
  exact ⟨_, _, rfl, L.A, L.c, _, rfl, S.p1⟩
theorem resQ_D {x : Except Int (Int × Wk)} {v : Value} (hv : resQ h0 L D u l x v h) : ∃ (n e : Int), v = .tuple #[.int .i64 n, .int .i64 e] ∧ resD h0 L D u l (x.map fun x => (x.1, [], x.2)) (.tuple #[.int .i64 n, .slice none 0 0, .int .i64 e]) h := by
 cases x with
 | error e =>
  obtain ⟨he, rfl, S⟩ := hv
  exact ⟨_, _, rfl, he, 0, _, rfl, S⟩
 | ok w =>
  obtain ⟨rfl, A, c, S⟩ := hv
  exact ⟨_, _, rfl, A, c, _, rfl, S.nilS⟩
theorem doP_len {c : Cmd} {y : Int × List Msg × Wk} (h : doP D U w c = .ok y) (W : w.wf U m) : y.2.1.length ≤ 70000 + m + 200 := by
 unfold doP at h
 split at h
 ·obtain ⟨z, _, rfl⟩ := map_ok h; exact Nat.zero_le _
 split at h
 ·obtain ⟨z, _, rfl⟩ := map_ok h; exact Nat.zero_le _
 split at h
 ·obtain ⟨z, _, rfl⟩ := map_ok h; exact Nat.zero_le _
 split at h
 ·obtain ⟨z, _, rfl⟩ := map_ok h; exact Nat.zero_le _
 split at h
 ·obtain ⟨z, _, rfl⟩ := map_ok h; exact Nat.zero_le _
 split at h
 ·obtain ⟨z, _, rfl⟩ := map_ok h; exact Nat.zero_le _
 split at h
 ·obtain ⟨z, hz, rfl⟩ := map_ok h; exact (tick_wf hz W).2.2
 ·obtain ⟨z, _, rfl⟩ := map_ok h; exact Nat.zero_le _
theorem sdo_ok (x : CmdV) (hc : ∀ h', St h0 h' l → D.rd h') (hu : ∀ h', St h0 h' l → Arr Unt.enc 4 h' Au U) (hx : ∀ h', St h0 h' l → Arr zEnc 1 h' x.A x.c.us) (hxl : x.c.kind = 1 → 1 ≤ x.c.us.length ∧ x.c.us.length ≤ 200) (hi : x.c.i64) (hD : Stc D U)
  (S : St h0 h (wkA L D (.slice Au U.length cu) w :: l)) (W : w.wf U m) (hm : m < 250000) :
  CallsH Tryz.prog 18 [.pointer (some ⟨L.p, 0, none⟩), .agg x.enc.toArray] h fun v h' => resD h0 L D (.slice Au U.length cu) l (doP D U w x.c) v h' := by
 have hul := hD.ul
 obtain ⟨X, hX⟩ : ∃ X, X = doP D U w x.c := ⟨_, rfl⟩
 rw [← hX]
 unfold doP at hX
 (refine eK c_saga_Saga_do (l_a rfl) fun K hK => ?_; (try simp (disch := first|omega|assumption|exact l_a rfl) only [go_sem, ↓wBk, simprocAttr, ir_saga_Saga_do]))
 (refine tA S ?_; clear S; intro g h S; (try simp only [sC, sN, l_h, l_i, Nat.zero_add, Nat.reduceAdd, l_j, l_k] at S); ((try clear F); have F := S.all; (try simp only [aC, aN, yC, and_true] at F)))
 have S : St h0 h (wkA L D (.slice Au U.length cu) w :: cellA g x.enc 31 :: l) := S.p1
 have hdrop : ∀ {L : Loc} {v : Value} {h' : Heap}, resD h0 L D (.slice Au U.length cu) (cellA g x.enc 31 :: l) X v h' → resD h0 L D (.slice Au U.length cu) l X v h' := fun {L v h'} hv => by
  cases X with
  | error e => obtain ⟨he, n, sl, rfl, S⟩ := hv; exact ⟨he, n, sl, rfl, S.tl⟩
  | ok y => obtain ⟨A, c, sl, rfl, S⟩ := hv; exact ⟨A, c, sl, rfl, S.p2.tl⟩
 ((try clear F); have F := S.all; (try simp only [aC, aN, yC, and_true] at F))
 by_cases k1 : x.c.kind = 1
 ·rw [if_pos k1] at hX
  (try simp (disch := first|omega|assumption|exact l_a rfl) only [go_sem, ↓wBk, simprocAttr, F, CmdV.enc, eq_true k1])
  refine cI (request_ok x (fun h' S => hc _ S.tl) (fun h' S => hu _ S.tl) (fun h' S => hx _ S.tl) (hxl k1) hD S W (by omega)) ?_
  clear S F
  intro v h hv
  obtain ⟨n, e, rfl, hv2⟩ := resQ_D hv
  rw [← hX] at hv2
  (try simp (disch := first|omega|assumption|exact l_a rfl) only [go_sem, ↓wBk, simprocAttr])
  exact hK _ _ (hdrop hv2)
 rw [if_neg k1] at hX
 by_cases k2 : x.c.kind = 2
 ·rw [if_pos k2] at hX
  (try simp (disch := first|omega|assumption|exact l_a rfl) only [go_sem, ↓wBk, simprocAttr, F, CmdV.enc, k1, k2])
  refine cI (end_ok _ _ S W (by omega) hul) ?_
  clear S F
  intro v h hv
  obtain ⟨e, rfl⟩ := resE_int hv
  have hv := resE_D hv
  rw [← hX] at hv
  (try simp (disch := first|omega|assumption|exact l_a rfl) only [go_sem, ↓wBk, simprocAttr])
  exact hK _ _ (hdrop hv)
 rw [if_neg k2] at hX
 by_cases k3 : x.c.kind = 3
 ·rw [if_pos k3] at hX
  (try simp (disch := first|omega|assumption|exact l_a rfl) only [go_sem, ↓wBk, simprocAttr, F, CmdV.enc, k1, k2, k3])
  refine cI (end_ok _ _ S W (by omega) hul) ?_
  clear S F
  intro v h hv
  obtain ⟨e, rfl⟩ := resE_int hv
  have hv := resE_D hv
  rw [← hX] at hv
  (try simp (disch := first|omega|assumption|exact l_a rfl) only [go_sem, ↓wBk, simprocAttr])
  exact hK _ _ (hdrop hv)
 rw [if_neg k3] at hX
 by_cases k4 : x.c.kind = 4
 ·rw [if_pos k4] at hX
  (try simp (disch := first|omega|assumption|exact l_a rfl) only [go_sem, ↓wBk, simprocAttr, F, CmdV.enc, k1, k2, k3, k4])
  refine cI (spick_ok _ S W hul) ?_
  clear S F
  intro v h hv
  obtain ⟨e, rfl⟩ := resE_int hv
  have hv := resE_D hv
  rw [← hX] at hv
  (try simp (disch := first|omega|assumption|exact l_a rfl) only [go_sem, ↓wBk, simprocAttr])
  exact hK _ _ (hdrop hv)
 rw [if_neg k4] at hX
 by_cases k5 : x.c.kind = 5
 ·rw [if_pos k5] at hX
  (try simp (disch := first|omega|assumption|exact l_a rfl) only [go_sem, ↓wBk, simprocAttr, F, CmdV.enc, k1, k2, k3, k4, k5])
  refine cI (sreceive_ok _ S W hul) ?_
  clear S F
  intro v h hv
  obtain ⟨e, rfl⟩ := resE_int hv
  have hv := resE_D hv
  rw [← hX] at hv
  (try simp (disch := first|omega|assumption|exact l_a rfl) only [go_sem, ↓wBk, simprocAttr])
  exact hK _ _ (hdrop hv)
 rw [if_neg k5] at hX
 by_cases k6 : x.c.kind = 6
 ·rw [if_pos k6] at hX
  (try simp (disch := first|omega|assumption|exact l_a rfl) only [go_sem, ↓wBk, simprocAttr, F, CmdV.enc, k1, k2, k3, k4, k5, eq_true k6])
  refine cI (grade_okS x (fun h' S => hc _ S.tl) (fun h' S => hu _ S.tl) hD S W (by omega)) ?_
  clear S F
  intro v h hv
  obtain ⟨e, rfl⟩ := resE_int hv
  have hv := resE_D hv
  rw [← hX] at hv
  (try simp (disch := first|omega|assumption|exact l_a rfl) only [go_sem, ↓wBk, simprocAttr])
  exact hK _ _ (hdrop hv)
 rw [if_neg k6] at hX
 by_cases k7 : x.c.kind = 7
 ·rw [if_pos k7] at hX
  (try simp (disch := first|omega|assumption|exact l_a rfl) only [go_sem, ↓wBk, simprocAttr, F, CmdV.enc, k1, k2, k3, k4, k5, k6, k7])
  refine cI (tick_ok x.c.days (fun h' S => hc _ S.tl) (fun h' S => hu _ S.tl) hD S W (by omega) hi.days) ?_
  clear S F
  intro v h hv
  obtain ⟨n, e, rfl, hv2⟩ := resT_D hv
  rw [← hX] at hv2
  (try simp (disch := first|omega|assumption|exact l_a rfl) only [go_sem, ↓wBk, simprocAttr])
  exact hK _ _ (hdrop hv2)
 rw [if_neg k7] at hX
 (try simp (disch := first|omega|assumption|exact l_a rfl) only [go_sem, ↓wBk, simprocAttr, F, CmdV.enc, k1, k2, k3, k4, k5, k6, k7])
 refine cI (reply_ok x.c.key x.c.yes (fun h' S => hc _ S.tl) hD S W (by omega)) ?_
 clear S F
 intro v h hv
 obtain ⟨e, rfl⟩ := resE_int hv
 have hv := resE_D hv
 rw [← hX] at hv
 (try simp (disch := first|omega|assumption|exact l_a rfl) only [go_sem, ↓wBk, simprocAttr])
 exact hK _ _ (hdrop hv)
theorem Take_nil (x : CmdV) (h : Heap) : CallsH Tryz.prog 5 [.pointer none, .agg x.enc.toArray] h fun v h' => v = .tuple #[.int .i64 0, .slice none 0 0, .int .i64 1] ∧ Fr h h' [] := by
 have S := St.nil h
 (refine eK c_saga_Saga_Take (l_a rfl) fun K hK => ?_; (try simp (disch := first|omega|assumption|exact l_a rfl) only [go_sem, ↓wBk, simprocAttr, ir_saga_Saga_Take]))
 (refine tA S ?_; clear S; intro g h S; (try simp only [sC, sN, l_h, l_i, Nat.zero_add, Nat.reduceAdd, l_j, l_k] at S); ((try clear F); have F := S.all; (try simp only [aC, aN, yC, and_true] at F)))
 (try simp (disch := first|omega|assumption|exact l_a rfl) only [go_sem, ↓wBk, simprocAttr])
 exact hK _ _ ⟨rfl, S.fr⟩
theorem Take_ok (x : CmdV) (hs : stcA D (.slice Au U.length cu) U ∈ l) (hx : ∀ h', St h0 h' l → Arr zEnc 1 h' x.A x.c.us) (hxl : x.c.us.length ≤ 1000) (hi : x.c.i64) (hD : Stc D U)
  (S : St h0 h (sagaA p D (.slice Au U.length cu) s :: l)) (W : s.wf U m) (hm : m < 250000) :
  CallsH Tryz.prog 5 [.pointer (some ⟨p, 0, none⟩), .agg x.enc.toArray] h fun v h' => ∃ sl, v = .tuple #[.int .i64 (takeP D U s x.c).1, sl, .int .i64 (takeP D U s x.c).2.2.1] ∧
   St h0 h' (ownA Msg.enc 6 110 sl (takeP D U s x.c).2.1 :: sagaA p D (.slice Au U.length cu) (takeP D U s x.c).2.2.2 :: l) := by
 have hul := hD.ul
 have hd : takeP D U s x.c = if dcd x.c.formed = false then (0, [], 1, s) else match doP D U ⟨s, []⟩ x.c with
  | .error e => (0, [], e, s)
  | .ok x => (x.1, x.2.2.sd ++ x.2.1, 0, x.2.2.s) := rfl
 generalize takeP D U s x.c = Y at *
 (refine eK c_saga_Saga_Take (l_a rfl) fun K hK => ?_; (try simp (disch := first|omega|assumption|exact l_a rfl) only [go_sem, ↓wBk, simprocAttr, ir_saga_Saga_Take]))
 (refine tA S ?_; clear S; intro g h S; (try simp only [sC, sN, l_h, l_i, Nat.zero_add, Nat.reduceAdd, l_j, l_k] at S); ((try clear F); have F := S.all; (try simp only [aC, aN, yC, and_true] at F)))
 have S : St h0 h (sagaA p D (.slice Au U.length cu) s :: cellA g x.enc 31 :: l) := S.p1
 ((try clear F); have F := S.all; (try simp only [aC, aN, yC, and_true] at F))
 (try simp (disch := first|omega|assumption|exact l_a rfl) only [go_sem, ↓wBk, simprocAttr, F, CmdV.enc])
 refine cI (Formed_ok x (hx _ S.tl.tl) hxl hi) ?_
 clear F
 rintro _ h ⟨rfl, f1⟩
 have S := S.frame f1
 clear f1
 by_cases hf : x.c.formed
 case neg =>
  rw [if_pos (dF hf)] at hd
  rw [dF hf]
  (try simp (disch := first|omega|assumption|exact l_a rfl) only [go_sem, ↓wBk, simprocAttr])
  refine hK _ _ ⟨_, by rw [hd], ?_⟩
  rw [hd]
  exact S.d1.nilS
 rw [if_neg (by rw [dT hf]; decide)] at hd
 rw [dT hf]
 (try simp (disch := first|omega|assumption|exact l_a rfl) only [go_sem, ↓wBk, simprocAttr])
 refine cI (SagaClone_ok S W hul (by omega)) ?_
 clear S
 rintro _ h ⟨q, rfl, S⟩
 obtain ⟨L, hLp, Sw⟩ := saga_wk S
 subst hLp
 clear S
 have S := Sw
 clear Sw
 have FN := st_rdN (off := 0) (n := 12) S.p2 (by simp [CmdV.enc])
 (try simp (disch := first|omega|assumption|exact l_a rfl) only [go_sem, ↓wBk, simprocAttr, FN])
 clear FN
 refine cI (sdo_ok x (fun h' S => (sAa (U := U) (A := Au) (c := cu) S (by simp [hs])).1) (fun h' S => (sAa (U := U) (A := Au) (c := cu) (D := D) S (by simp [hs])).2) (fun h' S => hx _ S.tl.tl) (fun e => ?_) hi hD S W hm) ?_
 ·have := hf.1
  rw [Cmd.fits, if_pos e] at this
  omega
 clear S
 have hwf := fun y => do_wf (D := D) (U := U) (w := ⟨s, []⟩) (c := x.c) (x := y) (m := m) hul (fun e => by
  have := hf.1
  rw [Cmd.fits, if_pos e] at this
  omega)
 have hlen := fun y => doP_len (D := D) (U := U) (w := ⟨s, []⟩) (c := x.c) (y := y) (m := m)
 cases hy : doP D U ⟨s, []⟩ x.c with
 | error e =>
  rw [hy] at hd
  rintro _ h ⟨he, n, sl, rfl, S⟩
  (try simp (disch := first|omega|assumption|exact l_a rfl) only [go_sem, ↓wBk, simprocAttr, he])
  refine hK _ _ ⟨_, by rw [hd], ?_⟩
  rw [hd]
  exact S.d1.nilS
 | ok y =>
  rw [hy] at hd
  have hlen := hlen _ hy W
  have W1 := hwf _ hy W
  clear hwf hy
  obtain ⟨n, ag, w1⟩ := y
  simp only at hd hlen W1
  have hsl := W1.sl
  rintro _ h ⟨A, c, sl, rfl, S⟩
  obtain ⟨sd, vs, hv, S⟩ := St.wk.1 S.p1
  have hvl : vs.length = w1.s.R.length := by rw [← hv, l_z]
  have S := S.perm (perm_rows _ _ _ _ _ _ _ _)
  have S : St h0 h (rmasA (.slice A w1.s.R.length c) w1.s.R :: cellA L.p (sagE D (.slice Au U.length cu) L.k L.t L.o (.slice A w1.s.R.length c) sd w1.s) 64 :: stockA L.k w1.s.K :: timA L.t w1.s.T :: obxA L.o w1.s.key w1.s.O :: ownA Msg.enc 6 110 sd w1.sd :: ownA Msg.enc 6 110 sl ag :: sagaA p D (.slice Au U.length cu) s :: cellA g x.enc 31 :: l) := St.rmas.2 ⟨vs, hv, S⟩
  obtain ⟨B, e, rfl⟩ := S.p5.sl
  obtain ⟨C, f, rfl⟩ := S.p6.sl
  have F := st_rd1 (off := 14) S.p1
  simp only [sagE, l_o, l_p] at F
  (try simp (disch := first|omega|assumption|exact l_a rfl) only [go_sem, ↓wBk, simprocAttr, F])
  clear F
  refine tAp (bytes := 48) (ys := ag) enc_len (by omega) enc_plain rfl S.p5 rfl (src_arr enc_len (S.p6.arr enc_len) rfl) (by omega) (by omega) ?_
  clear S
  intro sl h S
  (try simp (disch := first|omega|assumption|exact l_a rfl) only [go_sem, ↓wBk, simprocAttr])
  refine tS S.p2 rfl rfl (l_a rfl) ?_
  clear S
  intro h S
  rw [sagE] at S
  (try simp only [sC, sN, l_h, l_i, Nat.zero_add, Nat.reduceAdd, l_j, l_k] at S)
  have FN := st_rdN (off := 0) (n := 15) S (by simp)
  simp only [l_ao, l_aq, l_an] at FN
  (try simp (disch := first|omega|assumption|exact l_a rfl) only [go_sem, ↓wBk, simprocAttr, FN])
  clear FN
  obtain ⟨k0, t0, o0, rs0, S⟩ := St.saga.1 S.p7
  refine tS S rfl rfl (l_a rfl) ?_
  clear S
  intro h S
  rw [sagE] at S
  (try simp only [sC, sN, l_h, l_i, Nat.zero_add, Nat.reduceAdd, l_j, l_k] at S)
  (try simp (disch := first|omega|assumption|exact l_a rfl) only [go_sem, ↓wBk, simprocAttr])
  have S := S.d1.d1.d1.d1.d1.p6.tl.p6.tl
  have S : St h0 h (cellA p (sagE D (.slice Au U.length cu) L.k L.t L.o (.slice A w1.s.R.length c) (.slice none 0 0) w1.s) 64 :: ownA Msg.enc 6 110 sl (w1.sd ++ ag) :: _) := S
  refine hK _ _ ⟨sl, by rw [hd], ?_⟩
  rw [hd]
  have S : St h0 h (sagaA p D (.slice Au U.length cu) w1.s :: ownA Msg.enc 6 110 sl (w1.sd ++ ag) :: l) := St.saga.2 ⟨L.k, L.t, L.o, _, by (refine St.perm S ?_; repeat (with_reducible first | exact List.Perm.refl _ | refine pm0 ?_ | refine pm1 ?_ | refine pm2 ?_ | refine pm3 ?_ | refine pm4 ?_ | refine pm5 ?_ | refine pm6 ?_ | refine pm7 ?_ | refine pm8 ?_ | refine pm9 ?_ | refine pm10 ?_ | refine pm11 ?_ | refine pm12 ?_)) ⟩
  exact S.p1
end
end
section
set_option maxHeartbeats 8000000
def atOf (u : Unt) : Int := if u.ord < 0 then 3 else 0
noncomputable def sagNew (C : Cfg) : Sag := ⟨stkOf ((unitsAll C).map Unt.sku) ((unitsAll C).map atOf), ⟨0, 0, 0, 0, 0⟩, [], [], 1, [], 0⟩
theorem map_set {U : List Unt} (f : Unt → Int) {i : Nat} (hi : i < U.length) : ((U.take i).map f ++ List.replicate (U.length - i) 0).set i (f U[i]) = (U.take (i + 1)).map f ++ List.replicate (U.length - (i + 1)) 0 := by
 rw [List.set_append_right _ _ (by rw [l_z, l_ad]; omega), l_z, l_ad, Nat.min_eq_left (by omega), Nat.sub_self, show U.length - i = U.length - (i + 1) + 1 by omega, List.replicate_succ, l_h, l_t hi, l_al, l_q]
 rfl
theorem map_len {U : List Unt} (f : Unt → Int) {i : Nat} (hi : i ≤ U.length) : ((U.take i).map f ++ List.replicate (U.length - i) (0 : Int)).length = U.length := by
 rw [l_m, l_z, l_ad, l_ah]; omega
section
variable {h0 h : Heap} {l : List HP}
theorem skus_ok {A : Option Addr} {c : Nat} {U : List Unt} (S : St h0 h l) (ha : ∀ h', St h0 h' l → Arr Unt.enc 4 h' A U) (hl : U.length < 1000000) :
  CallsH Tryz.prog 32 [.slice A U.length c] h fun v h' => St h0 h' (ownA zEnc 1 3 v (U.map Unt.sku) :: l) := by
 (refine eK c_saga_skus (l_a rfl) fun K hK => ?_; (try simp (disch := first|omega|assumption|exact l_a rfl) only [go_sem, ↓wBk, simprocAttr, ir_saga_skus]))
 refine st_make (0 : Int) zEl rfl S (by omega) (by omega) ?_
 clear S
 intro w h S
 obtain ⟨B, d, rfl⟩ := S.sl
 rw [l_ah] at S ⊢
 (try simp (disch := first|omega|assumption|exact l_a rfl) only [go_sem, ↓wBk, simprocAttr])
 refine lI (fun ρ h' => ρ 3 = .slice B U.length d ∧ ρ 9 = .slice A U.length c ∧ ρ 10 = .int .i64 U.length ∧ ∃ i : Nat, ρ 11 = .int .i64 i ∧ i ≤ U.length ∧
  St h0 h' (ownA zEnc 1 3 (.slice B U.length d) ((U.take i).map Unt.sku ++ List.replicate (U.length - i) 0) :: l)) (fun ρ _ => U.length - (iv (ρ 11)).toNat) ?_ ?_
 ·(try simp (disch := first|omega|assumption|exact l_a rfl) only [go_sem, ↓wBk, simprocAttr])
  exact ⟨0, rfl, by omega, S⟩
 clear S
 rintro ρ h J hJ ⟨e3, e9, e10, i, e11, hi, S⟩
 (try simp (disch := first|omega|assumption|exact l_a rfl) only [go_sem, ↓wBk, simprocAttr, e10, e11])
 refine cD (fun hlt => ?_) (fun hlt => ?_)
 ·have hil : i < U.length := by omega
  obtain ⟨b1, o1, rfl, q1⟩ := (ha _ S.tl).at hil
  have hset := map_set Unt.sku hil
  have hlen := map_len Unt.sku hi
  generalize U[i] = x at *
  (try simp (disch := first|omega|assumption|exact l_a rfl) only [go_sem, ↓wBk, simprocAttr, e9, e11, q1])
  (refine tA S ?_; clear S; intro q h S; (try simp only [sC, sN, l_h, l_i, Nat.zero_add, Nat.reduceAdd, l_j, l_k] at S); ((try clear F); have F := S.all; (try simp only [aC, aN, yC, and_true] at F)))
  (try simp (disch := first|omega|assumption|exact l_a rfl) only [go_sem, ↓wBk, simprocAttr, F, Unt.enc])
  (refine tS (by first | exact S | exact S.p1 | exact S.p2 | exact S.p3 | exact S.p4 | exact S.p5 | exact S.p6 | exact S.p7 | exact S.p8 | exact S.p9 | exact S.p10 | exact S.p11) (by rfl) (by rfl) (l_a rfl) ?_; clear S; intro h S; (try simp only [sC, sN, l_h, l_i, Nat.zero_add, Nat.reduceAdd, l_j, l_k] at S); ((try clear F); have F := S.all; (try simp only [aC, aN, yC, and_true] at F)))
  obtain ⟨b, rfl⟩ := S.p1.ownAt (by omega)
  (try simp (disch := first|omega|assumption|exact l_a rfl) only [go_sem, ↓wBk, simprocAttr, e3, e11, F])
  refine st_setOwn zEl (i := i) (x := x.sku) S.p1 (by omega) (by rw [Nat.mul_one]; try rfl) rfl rfl rfl ?_
  clear S F q1
  intro h S
  rw [hset] at S
  (try simp (disch := first|omega|assumption|exact l_a rfl) only [go_sem, ↓wBk, simprocAttr, e11])
  refine hJ _ _ ?_ ?_
  ·(try simp (disch := first|omega|assumption|exact l_a rfl) only [go_sem, ↓wBk, simprocAttr, e3, e9, e10])
   exact ⟨i + 1, rfl, by omega, S.d1⟩
  ·(try simp (disch := first|omega|assumption|exact l_a rfl) only [go_sem, ↓wBk, simprocAttr, e11])
   omega
 obtain rfl : i = U.length := by omega
 rw [Nat.sub_self, List.replicate_zero, l_am, l_aj] at S
 (try simp (disch := first|omega|assumption|exact l_a rfl) only [go_sem, ↓wBk, simprocAttr, e3])
 exact hK _ _ S
theorem NewS_ok (C : Cfg) (r : ∀ h', St h0 h' l → C.rd h') (w : C.wf) (l1 : C.os.length < 1000000) (l2 : C.ss.length < 1000000) (l3 : C.ps.length < 1000000) (l4 : ∀ o ∈ C.os, o.ls.length < 1000000) (S : St h0 h l) :
  CallsH Tryz.prog 15 [.agg C.enc.toArray] h fun v h' => (¬ okCfg C ∧ v = .tuple #[.pointer none, .int .i64 1] ∧ St h0 h' l) ∨
   (okCfg C ∧ ∃ p D u, v = .tuple #[.pointer (some ⟨p, 0, none⟩), .int .i64 0] ∧ D.wf ∧ D.pu = C.pu ∧ St h0 h' (sagaA p D u (sagNew C) :: stcA D u (unitsAll C) :: l)) := by
 (refine eK c_saga_New (l_a rfl) fun K hK => ?_; (try simp (disch := first|omega|assumption|exact l_a rfl) only [go_sem, ↓wBk, simprocAttr, ir_saga_New]))
 (refine tA S ?_; clear S; intro g h S; (try simp only [sC, sN, l_h, l_i, Nat.zero_add, Nat.reduceAdd, l_j, l_k] at S); ((try clear F); have F := S.all; (try simp only [aC, aN, yC, and_true] at F)))
 (try simp (disch := first|omega|assumption|exact l_a rfl) only [go_sem, ↓wBk, simprocAttr, F, Cfg.enc])
 rw [show [Value.slice C.A1 C.os.length C.c1, .slice C.A2 C.ss.length C.c2, .slice C.A3 C.ps.length C.c3] = C.enc from rfl]
 refine cI (OUnits_ok C (fun h' S => r h' S.tl) w l1 l2 l3 l4 S) ?_
 clear S F
 rintro _ h (⟨hok, rfl, S⟩ | ⟨hok, u, rfl, S⟩)
 ·(try simp (disch := first|omega|assumption|exact l_a rfl) only [go_sem, ↓wBk, simprocAttr])
  exact hK _ _ (.inl ⟨hok, rfl, S.tl⟩)
 obtain ⟨A, c, rfl⟩ := S.sl
 obtain ⟨_, hul⟩ := unitsAll_len hok
 obtain ⟨U, hU⟩ : ∃ U, U = unitsAll C := ⟨_, rfl⟩
 rw [← hU] at S hul ⊢
 (try simp (disch := first|omega|assumption|exact l_a rfl) only [go_sem, ↓wBk, simprocAttr])
 refine st_make (0 : Int) zEl rfl S (by omega) (by omega) ?_
 clear S
 intro w' h S
 obtain ⟨B, d, rfl⟩ := S.sl
 rw [l_ah] at S ⊢
 (try simp (disch := first|omega|assumption|exact l_a rfl) only [go_sem, ↓wBk, simprocAttr])
 refine lI (fun ρ h' => ρ 1 = .pointer (some ⟨g, 0, none⟩) ∧ ρ 4 = .slice A U.length c ∧ ρ 6 = .slice B U.length d ∧ ρ 20 = .slice A U.length c ∧ ρ 21 = .int .i64 U.length ∧ ∃ i : Nat, ρ 22 = .int .i64 i ∧ i ≤ U.length ∧
  St h0 h' (ownA zEnc 1 3 (.slice B U.length d) ((U.take i).map atOf ++ List.replicate (U.length - i) 0) :: ownA Unt.enc 4 70 (.slice A U.length c) U :: cellA g C.enc 48 :: l)) (fun ρ _ => U.length - (iv (ρ 22)).toNat) ?_ ?_
 ·(try simp (disch := first|omega|assumption|exact l_a rfl) only [go_sem, ↓wBk, simprocAttr])
  exact ⟨0, rfl, by omega, S⟩
 clear S
 rintro ρ h J hJ ⟨e1, e4, e6, e20, e21, i, e22, hi, S⟩
 (try simp (disch := first|omega|assumption|exact l_a rfl) only [go_sem, ↓wBk, simprocAttr, e21, e22])
 refine cD (fun hlt => ?_) (fun hlt => ?_)
 ·have hil : i < U.length := by omega
  obtain ⟨b1, o1, rfl, q1⟩ := (S.p1.arr Unt.enc_len).at hil
  have hset := map_set atOf hil
  have hlen := map_len atOf hi
  have hsame : U[i].ord < 0 ∨ ((U.take i).map atOf ++ List.replicate (U.length - i) 0) = (U.take (i + 1)).map atOf ++ List.replicate (U.length - (i + 1)) 0 := by
   by_cases hx : U[i].ord < 0
   ·exact .inl hx
   ·refine .inr ?_
    have : atOf U[i] = 0 := if_neg hx
    rw [l_t hil, l_al, l_q, show U.length - i = U.length - (i + 1) + 1 by omega, List.replicate_succ]
    simp [this]
  generalize U[i] = x at *
  (try simp (disch := first|omega|assumption|exact l_a rfl) only [go_sem, ↓wBk, simprocAttr, e20, e22, q1])
  (refine tA S ?_; clear S; intro q h S; (try simp only [sC, sN, l_h, l_i, Nat.zero_add, Nat.reduceAdd, l_j, l_k] at S); ((try clear F); have F := S.all; (try simp only [aC, aN, yC, and_true] at F)))
  (try simp (disch := first|omega|assumption|exact l_a rfl) only [go_sem, ↓wBk, simprocAttr, F, Unt.enc])
  (refine tS (by first | exact S | exact S.p1 | exact S.p2 | exact S.p3 | exact S.p4 | exact S.p5 | exact S.p6 | exact S.p7 | exact S.p8 | exact S.p9 | exact S.p10 | exact S.p11) (by rfl) (by rfl) (l_a rfl) ?_; clear S; intro h S; (try simp only [sC, sN, l_h, l_i, Nat.zero_add, Nat.reduceAdd, l_j, l_k] at S); ((try clear F); have F := S.all; (try simp only [aC, aN, yC, and_true] at F)))
  by_cases hx : x.ord < 0
  ·obtain ⟨b, rfl⟩ := S.p1.ownAt (by omega)
   (try simp (disch := first|omega|assumption|exact l_a rfl) only [go_sem, ↓wBk, simprocAttr, e6, e22, F, hx])
   refine st_setOwn zEl (i := i) (x := 3) S.p1 (by omega) (by rw [Nat.mul_one]; try rfl) rfl rfl rfl ?_
   clear S F q1
   intro h S
   rw [show (3 : Int) = atOf x by rw [atOf, if_pos hx], hset] at S
   (try simp (disch := first|omega|assumption|exact l_a rfl) only [go_sem, ↓wBk, simprocAttr, e22])
   refine hJ _ _ ?_ ?_
   ·(try simp (disch := first|omega|assumption|exact l_a rfl) only [go_sem, ↓wBk, simprocAttr, e1, e4, e6, e20, e21])
    exact ⟨i + 1, rfl, by omega, S.d1⟩
   ·(try simp (disch := first|omega|assumption|exact l_a rfl) only [go_sem, ↓wBk, simprocAttr, e22])
    omega
  ·rw [hsame.resolve_left hx] at S
   (try simp (disch := first|omega|assumption|exact l_a rfl) only [go_sem, ↓wBk, simprocAttr, e22, F, hx])
   refine hJ _ _ ?_ ?_
   ·(try simp (disch := first|omega|assumption|exact l_a rfl) only [go_sem, ↓wBk, simprocAttr, e1, e4, e6, e20, e21])
    exact ⟨i + 1, rfl, by omega, S.tl⟩
   ·(try simp (disch := first|omega|assumption|exact l_a rfl) only [go_sem, ↓wBk, simprocAttr, e22])
    omega
 obtain rfl : i = U.length := by omega
 rw [Nat.sub_self, List.replicate_zero, l_am, l_aj] at S
 clear hJ e20 e21 e22
 (try simp (disch := first|omega|assumption|exact l_a rfl) only [go_sem, ↓wBk, simprocAttr, e4])
 refine cI (skus_ok S (fun h' S => S.p1.arr Unt.enc_len) (by omega)) ?_
 clear S
 intro v h S
 obtain ⟨Ak, ck, rfl⟩ := S.sl
 (try simp (disch := first|omega|assumption|exact l_a rfl) only [go_sem, ↓wBk, simprocAttr, e6])
 have hn : U.length = (U.map atOf).length := (l_z ..).symm
 have hn2 : (U.map Unt.sku).length = U.length := l_z ..
 have hcall := NewK_ok (A := Ak) (B := B) (c := ck) (d := d) (sk := U.map Unt.sku) (at_ := U.map atOf) S (fun h' S => S.arr zEl) (fun h' S => by have S1 := S.p1; rw [hn] at S1; exact S1.arr zEl) (by rw [hn2]; omega) (by rw [← hn]; omega)
 rw [← hn] at hcall
 refine cI hcall ?_
 clear S hcall
 have hokA : okAt (U.map atOf) := fun q hq => by
  obtain ⟨x, _, rfl⟩ := List.mem_map.1 hq
  unfold atOf
  split <;> omega
 rintro _ h (⟨hbad, _⟩ | ⟨_, k, rfl, S⟩)
 ·exact (hbad ⟨by rw [hn2], by rw [hn2]; exact hul, hokA⟩).elim
 have S := S.d1.d1
 ((try clear F); have F := S.all; (try simp only [aC, aN, yC, and_true] at F))
 (try simp (disch := first|omega|assumption|exact l_a rfl) only [go_sem, ↓wBk, simprocAttr, e1, F])
 refine cI (CfgClone_ok C (fun h' S => r h' S.tl.tl.tl) hok S) ?_
 clear S F
 rintro _ h ⟨D, rfl, hw, hp, S⟩
 (try simp (disch := first|omega|assumption|exact l_a rfl) only [go_sem, ↓wBk, simprocAttr, e4, Cfg.enc])
 (refine tA S ?_; clear S; intro t h S; (try simp only [sC, sN, l_h, l_i, Nat.zero_add, Nat.reduceAdd, l_j, l_k] at S); ((try clear F); have F := S.all; (try simp only [aC, aN, yC, and_true] at F)))
 have S := tim_new S
 (try simp (disch := first|omega|assumption|exact l_a rfl) only [go_sem, ↓wBk, simprocAttr])
 refine cI (NewO_ok S) ?_
 clear S F
 rintro _ h ⟨o, rfl, S⟩
 (try simp (disch := first|omega|assumption|exact l_a rfl) only [go_sem, ↓wBk, simprocAttr, Cfg.enc])
 (refine tA S ?_; clear S; intro p h S; (try simp only [sC, sN, l_h, l_i, Nat.zero_add, Nat.reduceAdd, l_j, l_k] at S); ((try clear F); have F := S.all; (try simp only [aC, aN, yC, and_true] at F)))
 (try simp (disch := first|omega|assumption|exact l_a rfl) only [go_sem, ↓wBk, simprocAttr])
 refine hK _ _ (.inr ⟨hok, p, D, .slice A U.length c, rfl, hw, hp, ?_⟩)
 have S : St h0 h (rmasA (.slice none 0 0) [] :: _) := St.rmas.2 ⟨[], rfl, S.nilS⟩
 have S := St.star.2 (S.p7.tl.p6.p5)
 rw [hU] at S ⊢
 have S : St h0 h (stcA D (.slice A (unitsAll C).length c) (unitsAll C) :: rmasA (.slice none 0 0) (sagNew C).R :: cellA p (sagE D (.slice A (unitsAll C).length c) k t o (.slice none 0 0) (.slice none 0 0) (sagNew C)) 64 :: obxA o (sagNew C).key (sagNew C).O :: timA t (sagNew C).T :: stockA k (sagNew C).K :: l) := S
 exact St.saga.2 ⟨k, t, o, .slice none 0 0, by (refine St.perm S ?_; repeat (with_reducible first | exact List.Perm.refl _ | refine pm0 ?_ | refine pm1 ?_ | refine pm2 ?_ | refine pm3 ?_ | refine pm4 ?_ | refine pm5 ?_ | refine pm6 ?_ | refine pm7 ?_ | refine pm8 ?_ | refine pm9 ?_ | refine pm10 ?_ | refine pm11 ?_ | refine pm12 ?_)) ⟩
end
end
end Go.Proofs.YtijnkebgciaieaaGreat.MX
