import Derived.Test.YtcgbhcgfdcfmaaaGreatK24
import Derived.Test.YtcgbhcgfdcfmaaaGreatK21
import Derived.Test.YtcgbhcgfdcfmaaaGreatK13
namespace Go.Proofs.YtcgbhcgfdcfmaaaGreat.MX
open Go Go.Proofs
set_option linter.unusedSimpArgs false
set_option linter.unusedVariables false
section
set_option maxHeartbeats 8000000
theorem runits_ok {h0 : Heap} (x : RetV) (ha : Arr zEnc 1 h0 x.A x.r.us) (hb : Arr zEnc 1 h0 x.B x.r.gs) (l1 : x.r.us.length < 1000000) (l2 : x.r.gs.length < 1000000) :
  CallsH Tryz.prog 162 [.agg x.enc.toArray] h0 fun v h' => v = .bool (dcd (okUnits x.r.us x.r.gs)) ∧ Fr h0 h' [] := by
 have S := St.nil h0
 have ha' : ∀ {h' : Heap} {l : List HP}, St h0 h' l → Arr zEnc 1 h' x.A x.r.us := fun S => ha.fr S.fr (by simp)
 have hb' : ∀ {h' : Heap} {l : List HP}, St h0 h' l → Arr zEnc 1 h' x.B x.r.gs := fun S => hb.fr S.fr (by simp)
 refine EN i162.eq_1 fun K hK => Wa ?_
 (revert S; (try clear F); refine AL fun b h S F => ?_)
 refine Wc F @RetV.enc.eq_1 ?_
 refine cI (between_ok _ _ _ _) ?_
 rintro _ _ ⟨rfl, rfl⟩
 by_cases n1 : btw x.r.us.length 1 200
 case neg =>
  rw [dF n1]
  refine Wa ?_
  exact hK _ _ ⟨by rw [dF fun h => n1 h.1], S.fr⟩
 rw [dT n1]
 by_cases n2 : (x.r.gs.length : Int) = x.r.us.length
 case neg =>
  refine Wd F @RetV.enc.eq_1 n2 ?_
  exact hK _ _ ⟨by rw [dF fun h => by have := h.2.1; omega], S.fr⟩
 refine Wd F @RetV.enc.eq_1 n2 ?_
 refine lI (fun ρ h' => ρ 1 = .pointer (some ⟨b, 0, none⟩) ∧ ρ 20 = .slice x.A x.r.us.length x.c ∧ ρ 21 = .int .i64 x.r.us.length ∧ ∃ i : Nat, ρ 22 = .int .i64 i ∧ i ≤ x.r.us.length ∧ (∀ k, k < i → unitOk x.r.us x.r.gs k) ∧ St h0 h' [cellA b x.enc 59]) (fun ρ _ => x.r.us.length - (iv (ρ 22)).toNat) ?_ ?_
 ·refine Wa ?_
  exact ⟨0, rfl, by omega, fun k hk => absurd hk (by omega), S⟩
 clear S F
 rintro ρ h J hJ ⟨e1, e20, e21, i, e22, hi, hok, S⟩
 refine Wc e21 e22 ?_
 refine cD (fun hlt => ?_) (fun hlt => ?_)
 ·have hil : i < x.r.us.length := by omega
  obtain ⟨b1, o1, hA1, q1⟩ := (ha' S).at hil
  obtain ⟨b2, o2, hA2, q2⟩ := (hb' S).at (i := i) (by omega)
  have q1 := rP0 q1 (by omega)
  have q2 := rP0 q2 (by omega)
  simp only [zEnc, l_o, Nat.mul_one] at q1 q2
  rw [← getD_at] at q1 q2
  have hbad : ¬ unitOk x.r.us x.r.gs i → ¬ okUnits x.r.us x.r.gs := fun hn h => hn (h.2.2 i hil)
  have hgo := fun hx => unitOk_snoc hok (i := i) hx
  have hU : unitOk x.r.us x.r.gs i ↔ (btw (x.r.us.getD i 0) 0 199 ∧ (0 < i → x.r.us.getD (i - 1) 0 < x.r.us.getD i 0) ∧ btw (x.r.gs.getD i 0) (-1) 4) := Iff.rfl
  ((try clear F); have F := S.fx)
  refine Wf e20 e22 hA1 q1 @Nat.mul_one ?_
  refine cI (between_ok _ _ _ _) ?_
  rintro _ _ ⟨rfl, rfl⟩
  by_cases c1 : btw (x.r.us.getD i 0) 0 199
  case neg =>
   rw [dF c1]
   refine Wa ?_
   exact hK _ _ ⟨by rw [dF (hbad fun h => c1 (hU.1 h).1)], S.fr⟩
  rw [dT c1]
  by_cases c2 : 0 < i
  ·obtain ⟨j, rfl⟩ : ∃ j, i = j + 1 := ⟨i - 1, by omega⟩
   obtain ⟨b3, o3, hA3, q3⟩ := (ha' S).at (i := j) (by omega)
   rw [hA1] at hA3
   cases hA3
   have q3 := rP0 q3 (by omega)
   simp only [zEnc, l_o, Nat.mul_one] at q3
   rw [← getD_at] at q3
   have hj1 : ((j + 1 : Nat) : Int) - 1 = (j : Int) := by omega
   have hj0 : (0 : Int) < ((j + 1 : Nat) : Int) := by omega
   rw [Nat.add_sub_cancel] at hU
   by_cases c3 : x.r.us.getD (j + 1) 0 ≤ x.r.us.getD j 0
   ·refine Wi e1 F @RetV.enc.eq_1 hA1 hj0 hj1 q3 (Pc c3 @Nat.mul_one) ?_
    exact hK _ _ ⟨by rw [dF (hbad fun h => by have := (hU.1 h).2.1 (by omega); omega)], S.fr⟩
   refine Wi e1 F @RetV.enc.eq_1 hA1 hA2 hj0 hj1 (Pe q2 q3 c3 @Nat.mul_one) ?_
   refine cI (between_ok _ _ _ _) ?_
   rintro _ _ ⟨rfl, rfl⟩
   by_cases c4 : btw (x.r.gs.getD (j + 1) 0) (-1) 4
   case neg =>
    rw [dF c4]
    refine Wa ?_
    exact hK _ _ ⟨by rw [dF (hbad fun h => c4 (hU.1 h).2.2)], S.fr⟩
   rw [dT c4]
   refine Wb e22 ?_
   refine hJ _ _ ?_ ?_
   ·refine We e1 e20 e21 hA1 ?_
    exact ⟨j + 1 + 1, rfl, by omega, hgo (hU.2 ⟨c1, fun _ => by omega, c4⟩), S⟩
   ·refine Wb e22 ?_
    omega
  ·obtain rfl : i = 0 := by omega
   rw [Nat.add_zero] at q1 q2
   refine Wg e1 F @RetV.enc.eq_1 hA2 q2 @Nat.mul_one ?_
   refine cI (between_ok _ _ _ _) ?_
   rintro _ _ ⟨rfl, rfl⟩
   by_cases c4 : btw (x.r.gs.getD 0 0) (-1) 4
   case neg =>
    rw [dF c4]
    refine Wa ?_
    exact hK _ _ ⟨by rw [dF (hbad fun h => c4 (hU.1 h).2.2)], S.fr⟩
   rw [dT c4]
   refine Wb e22 ?_
   refine hJ _ _ ?_ ?_
   ·refine We e1 e20 e21 hA1 ?_
    exact ⟨1, rfl, by omega, hgo (hU.2 ⟨c1, fun h => absurd h (by omega), c4⟩), S⟩
   ·refine Wb e22 ?_
    omega
 obtain rfl : i = x.r.us.length := by omega
 refine Wa ?_
 exact hK _ _ ⟨by rw [dT ⟨n1, by omega, hok⟩], S.fr⟩
theorem RmaRight_ok {h0 : Heap} (x : RetV) (ha : Arr zEnc 1 h0 x.A x.r.us) (hb : Arr zEnc 1 h0 x.B x.r.gs) (l1 : x.r.us.length < 1000000) (l2 : x.r.gs.length < 1000000) :
  CallsH Tryz.prog 131 [.agg x.enc.toArray] h0 fun v h' => v = .bool (dcd x.r.right) ∧ Fr h0 h' [] := by
 have S := St.nil h0
 refine EN i131.eq_1 fun K hK => Wa ?_
 (revert S; (try clear F); refine AL fun b h S F => ?_)
 refine Wc F @RetV.enc.eq_1 ?_
 refine cI (between_ok _ _ _ _) ?_
 rintro _ _ ⟨rfl, rfl⟩
 by_cases p0 : btw x.r.num 1 100
 case neg =>
  rw [dF p0]
  refine Wc F @RetV.enc.eq_1 ?_
  exact hK _ _ ⟨by rw [dF fun h => p0 h.1], S.fr⟩
 rw [dT p0]
 refine Wc F @RetV.enc.eq_1 ?_
 refine cI (between_ok _ _ _ _) ?_
 rintro _ _ ⟨rfl, rfl⟩
 by_cases p1 : btw x.r.ord 0 19
 case neg =>
  rw [dF p1]
  refine Wc F @RetV.enc.eq_1 ?_
  exact hK _ _ ⟨by rw [dF fun h => p1 h.2.1], S.fr⟩
 rw [dT p1]
 refine Wc F @RetV.enc.eq_1 ?_
 refine cI (between_ok _ _ _ _) ?_
 rintro _ _ ⟨rfl, rfl⟩
 by_cases p2 : btw x.r.rea 0 3
 case neg =>
  rw [dF p2]
  refine Wc F @RetV.enc.eq_1 ?_
  exact hK _ _ ⟨by rw [dF fun h => p2 h.2.2.1], S.fr⟩
 rw [dT p2]
 refine Wc F @RetV.enc.eq_1 ?_
 refine cI (between_ok _ _ _ _) ?_
 rintro _ _ ⟨rfl, rfl⟩
 by_cases p3 : btw x.r.want 0 1000
 case neg =>
  rw [dF p3]
  refine Wc F @RetV.enc.eq_1 ?_
  exact hK _ _ ⟨by rw [dF fun h => p3 h.2.2.2.1], S.fr⟩
 rw [dT p3]
 refine Wc F @RetV.enc.eq_1 ?_
 refine cI (between_ok _ _ _ _) ?_
 rintro _ _ ⟨rfl, rfl⟩
 by_cases p4 : btw x.r.res (-1) 199
 case neg =>
  rw [dF p4]
  refine Wc F @RetV.enc.eq_1 ?_
  exact hK _ _ ⟨by rw [dF fun h => p4 h.2.2.2.2.1], S.fr⟩
 rw [dT p4]
 refine Wc F @RetV.enc.eq_1 ?_
 refine cI (between_ok _ _ _ _) ?_
 rintro _ _ ⟨rfl, rfl⟩
 by_cases p5 : btw x.r.state 1 9
 case neg =>
  rw [dF p5]
  refine Wc F @RetV.enc.eq_1 ?_
  exact hK _ _ ⟨by rw [dF fun h => p5 h.2.2.2.2.2.1], S.fr⟩
 rw [dT p5]
 refine Wc F @RetV.enc.eq_1 ?_
 refine cI (between_ok _ _ _ _) ?_
 rintro _ _ ⟨rfl, rfl⟩
 by_cases p6 : btw x.r.day 0 100000
 case neg =>
  rw [dF p6]
  refine Wc F @RetV.enc.eq_1 ?_
  exact hK _ _ ⟨by rw [dF fun h => p6 h.2.2.2.2.2.2.1], S.fr⟩
 rw [dT p6]
 refine Wc F @RetV.enc.eq_1 ?_
 rw [show [Value.int .i64 x.r.num, .int .i64 x.r.ord, .int .i64 x.r.rea, .int .i64 x.r.want, .int .i64 x.r.res, .bool x.r.cred, .int .i64 x.r.state, .int .i64 x.r.day, .slice x.A x.r.us.length x.c, .slice x.B x.r.gs.length x.d, .int .i64 x.r.worth, .int .i64 x.r.paid, .int .i64 x.r.credd, .int .i64 x.r.given] = x.enc from rfl]
 refine cI (runits_ok x (ha.fr S.fr (by simp)) (hb.fr S.fr (by simp)) l1 l2) ?_
 rintro _ h ⟨rfl, f1⟩
 have S := S.frame f1
 by_cases p7 : okUnits x.r.us x.r.gs
 case neg =>
  rw [dF p7]
  refine Wa ?_
  exact hK _ _ ⟨by rw [dF fun h => p7 h.2.2.2.2.2.2.2.1], S.fr⟩
 rw [dT p7]
 ((try clear F); have F := S.fx)
 refine Wc F @RetV.enc.eq_1 ?_
 rw [show [Value.int .i64 x.r.num, .int .i64 x.r.ord, .int .i64 x.r.rea, .int .i64 x.r.want, .int .i64 x.r.res, .bool x.r.cred, .int .i64 x.r.state, .int .i64 x.r.day, .slice x.A x.r.us.length x.c, .slice x.B x.r.gs.length x.d, .int .i64 x.r.worth, .int .i64 x.r.paid, .int .i64 x.r.credd, .int .i64 x.r.given] = x.enc from rfl]
 refine cI (rsums_ok x _) ?_
 rintro _ h ⟨rfl, f1⟩
 have S := S.frame f1
 refine Wa ?_
 refine hK _ _ ⟨?_, S.fr⟩
 by_cases p8 : okMon x.r.worth ∧ okMon x.r.paid ∧ okMon x.r.credd ∧ okMon x.r.given
 ·rw [dT p8, dT ⟨p0, p1, p2, p3, p4, p5, p6, p7, p8⟩]
 ·rw [dF p8, dF fun h => p8 h.2.2.2.2.2.2.2.2]
end
section
set_option maxHeartbeats 4000000
theorem perm_sum {α : Type} (f : α → Nat) {a b : List α} (h : a.Perm b) : (a.map f).sum = (b.map f).sum := by
 induction h with
 | nil => rfl
 | cons x _ ih => simp only [List.map_cons, List.sum_cons, ih]
 | swap x y l => simp only [List.map_cons, List.sum_cons]; omega
 | trans _ _ ih1 ih2 => rw [ih1, ih2]
theorem sum_le_mul {α : Type} (f : α → Nat) (M : Nat) : ∀ {T : List α}, (∀ z ∈ T, f z ≤ M) → (T.map f).sum ≤ T.length * M ∧ ∀ x ∈ T, f x = 0 → (T.map f).sum + M ≤ T.length * M
 | [], _ => ⟨by simp, fun x hx => by cases hx⟩
 | y :: T, h => by
  obtain ⟨h1, h2⟩ := sum_le_mul f M (T := T) fun z hz => h z (by simp [hz])
  have hy := h y (by simp)
  simp only [List.map_cons, List.sum_cons, l_f, Nat.succ_mul]
  refine ⟨by omega, fun x hx h0 => ?_⟩
  rcases List.mem_cons.1 hx with rfl | hx
  ·omega
  ·have := h2 x hx h0; omega
theorem IsShares.le {sum all : Nat} {ws : List Nat} {out : List Int} (H : IsShares sum all ws out) (hall : 0 < all) (he : ws.sum = all) (hle : sum ≤ all) : ∀ i (hi : i < ws.length), out.getD i 0 ≤ (ws[i] : Nat) := by
 obtain ⟨Z, hp, hs, rfl⟩ := H
 obtain ⟨hl1, hl2⟩ := left_law hall he (sum := sum)
 have hZl : Z.length = ws.length := by rw [hp.length_eq, natsI_len]
 have hql : ((quoW sum all ws).map Int.ofNat).length = ws.length := by rw [l_z, quoW_len]
 have hZd : ∀ z ∈ Z, 0 ≤ z ∧ z < (((quoW sum all ws).map Int.ofNat).length : Int) := fun z hz => by rw [hql]; exact natsI_mem.1 (hp.mem_iff.1 hz)
 have hZn : Z.Nodup := hp.nodup_iff.2 (natsI_nodup _)
 have htd : ∀ z ∈ Z.take (sum - (quoW sum all ws).sum), 0 ≤ z ∧ z < (((quoW sum all ws).map Int.ofNat).length : Int) := fun z hz => hZd z (List.mem_of_mem_take hz)
 have hg := bump_get _ _ (hZn.sublist (List.take_sublist (sum - (quoW sum all ws).sum) Z)) htd
 intro i hi
 have hq : ((quoW sum all ws).map Int.ofNat).getD i 0 = ((sum * ws[i] / all : Nat) : Int) := by
  rw [l_s, l_r (by rw [hql]; exact hi)]
  simp only [quoW, l_ae]
  rfl
 rw [hg i (by rw [hql]; exact hi), hq]
 have hqr := quo_rest sum all ws
 rw [he] at hqr
 by_cases c1 : sum = all
 ·have hqw : quoW sum all ws = ws := by
   rw [quoW, c1]
   conv => rhs; rw [← List.map_id ws]
   exact List.map_congr_left fun w _ => by rw [Nat.mul_comm, Nat.mul_div_cancel _ hall]; rfl
  rw [hqw, he, c1, Nat.sub_self, l_an, if_neg (by simp), Nat.mul_comm, Nat.mul_div_cancel _ hall]
  omega
 ·by_cases c2 : ws[i] = 0
  ·rw [if_neg, c2, Nat.mul_zero, Nat.zero_div]
   ·simp
   ·intro hm
    have hr0 : (restW sum all ws).getD ((i : Int).toNat) 0 = 0 := by
     simp only [l_ap, restW, l_s, l_ag, l_r hi, c2]
     simp
    have hrl : ∀ z : Int, (restW sum all ws).getD z.toNat 0 ≤ all - 1 := fun z => by
     rw [l_s, restW, l_ag]
     cases ws[z.toNat]? with
     | none => simp
     | some w =>
      have := Nat.mod_lt (sum * w) hall
      simp only [Option.map_some, Option.getD_some]
      omega
    have hsz : (Z.map fun z : Int => (restW sum all ws).getD z.toNat 0).sum = (restW sum all ws).sum := by
     rw [perm_sum _ hp]
     congr 1
     apply List.ext_getElem
     ·simp [natsI, restW]
     ·intro k h1 h2
      simp only [natsI, l_ae, List.getElem_range]
      show (restW sum all ws).getD ((k : Int).toNat) 0 = _
      rw [l_ap, l_s, l_r h2]
      rfl
    have hcut : (Z.map fun z : Int => (restW sum all ws).getD z.toNat 0).sum = ((Z.take (sum - (quoW sum all ws).sum)).map fun z : Int => (restW sum all ws).getD z.toNat 0).sum + ((Z.drop (sum - (quoW sum all ws).sum)).map fun z : Int => (restW sum all ws).getD z.toNat 0).sum := by
     conv => lhs; rw [← List.take_append_drop (sum - (quoW sum all ws).sum) Z, l_al, List.sum_append]
    have hdr : ∀ z ∈ Z.drop (sum - (quoW sum all ws).sum), (restW sum all ws).getD z.toNat 0 ≤ 0 := fun z hz => by
     rw [← List.take_append_drop (sum - (quoW sum all ws).sum) Z] at hs
     have hrk := (List.pairwise_append.1 hs).2.2 _ hm z hz
     unfold Rk at hrk
     simp only at hrk
     omega
    have h3 := (sum_le_mul (fun z : Int => (restW sum all ws).getD z.toNat 0) 0 hdr).1
    have h4 := (sum_le_mul (fun z : Int => (restW sum all ws).getD z.toNat 0) (all - 1) (T := Z.take (sum - (quoW sum all ws).sum)) fun z _ => hrl z).2 _ hm hr0
    rw [l_ad, Nat.min_eq_left (by omega)] at h4
    obtain ⟨d, hd⟩ : ∃ d, sum = (quoW sum all ws).sum + d := ⟨sum - (quoW sum all ws).sum, by omega⟩
    have hd2 : sum - (quoW sum all ws).sum = d := by omega
    rw [hd2] at h3 h4 hcut hm
    obtain ⟨m, hm1⟩ : ∃ m, all = m + 1 := ⟨all - 1, by omega⟩
    have h5 : d * all = (restW sum all ws).sum := by
     have h6 : sum * all = (quoW sum all ws).sum * all + d * all := by
      conv => lhs; rw [hd, Nat.add_mul]
     omega
    rw [hsz] at hcut
    have h7 : d * all = d * (all - 1) + d := by rw [hm1, Nat.add_sub_cancel, Nat.mul_succ]
    have h8 : d = 0 := by omega
    rw [h8] at hm
    simp at hm
  ·have hlt : sum * ws[i] < all * ws[i] := Nat.mul_lt_mul_of_pos_right (by omega) (by omega)
   have hq2 : sum * ws[i] / all < ws[i] := (Nat.div_lt_iff_lt_mul hall).2 (by rw [Nat.mul_comm (ws[i])]; exact hlt)
   split <;> omega
theorem shF_le {s : Nat} {P : List Int} (hask : askS s P = 0) (hle : (s : Int) ≤ P.sum) {k : Nat} (hk : k < P.length) (hk2 : k < (shF s P).length) : (shF s P)[k] ≤ P[k] := by
 obtain ⟨hw0, hw1, hf, hs0, hs1, hs2, hs3⟩ := ask0 hask
 by_cases hz : P.sum = 0
 ·have h0 : s = 0 := by omega
  have := (shF_len hask).2.2 _ (l_v hk2)
  have hp := (hf _ (l_v hk)).1
  omega
 ·obtain ⟨hep, _⟩ := effW_pos hask
  have he : effW P = P.map Int.toNat := by unfold effW; rw [if_neg hz]
  have hsum := sumI (P.map Int.toNat)
  rw [toNat_back hf] at hsum
  have hb := (shF_is s P).le hep rfl (by rw [he]; omega) k (by rw [effW_len]; exact hk)
  rw [l_s, l_r hk2] at hb
  simp only [Option.getD_some, he, l_ae] at hb
  have hp := (hf _ (l_v hk)).1
  omega
theorem unitsOf_nn {o : Odr} (h : OkO o) (i : Int) : ∀ u ∈ unitsOf o i, 0 ≤ u.share ∧ u.share ≤ 4294967296 := by
 intro u hu
 refine ⟨?_, by have := (unitsR_bound h i 3 u hu).2; omega⟩
 obtain ⟨k, hk, rfl⟩ := l_af hu
 have hl := unitsR_len h i 3
 have hv := (len_sum o.ls h.count).2.2 i
 have hk' : k < (priceL o.ls).length := by rw [← hl]; exact hk
 have e0 : (psum o 0).toNat = o.disc.toNat := rfl
 have e1 : (psum o 1).toNat = o.tax.toNat := rfl
 have e2 : (psum o 2).toNat = o.ship.toNat := rfl
 have h0 := h.sh 0
 have h1 := h.sh 1
 have h2 := h.sh 2
 rw [e0] at h0
 rw [e1] at h1
 rw [e2] at h2
 rw [unitsOf_at h i (by omega) (by omega) (by omega) (by omega) hk]
 have b1 := h1.2.2 _ (l_v (l := shF o.tax.toNat (priceL o.ls)) (n := k) (by omega))
 have b2 := h2.2.2 _ (l_v (l := shF o.ship.toNat (priceL o.ls)) (n := k) (by omega))
 have hask := h.ask h.disc
 have hd0 := h.disc.1
 rw [← Int.toNat_of_nonneg hd0] at hask
 have b0 := shF_le hask (by rw [(len_sum o.ls h.count).2.1, Int.toNat_of_nonneg hd0]; exact h.le) hk' (by omega)
 have hp : ((expandU i o.ls)[k]'(by omega)).share = (priceL o.ls)[k] := by
  have := hv.2
  simp only [← this, l_ae]
 show 0 ≤ ((expandU i o.ls)[k]'(by omega)).share - _ + _ + _
 rw [hp]
 omega
theorem units_nn {C : Cfg} (hok : okCfg C) : ∀ u ∈ unitsAll C, 0 ≤ u.share ∧ u.share ≤ 4294967296 := by
 intro u hu
 rw [unitsAll, l_y] at hu
 rcases hu with hu | hu
 ·have : ∀ (os : List Odr) (j : Nat), (∀ o ∈ os, OkO o) → ∀ u ∈ ordsU j os, 0 ≤ u.share ∧ u.share ≤ 4294967296 := by
   intro os
   induction os with
   | nil => intro j _ u hu; cases hu
   | cons o os ih =>
    intro j h u hu
    rw [ordsU, l_y] at hu
    rcases hu with hu | hu
    ·exact unitsOf_nn (h o (by simp)) j u hu
    ·exact ih (j + 1) (fun x hx => h x (by simp [hx])) u hu
  exact this C.os 0 hok.okO u hu
 ·simp only [List.mem_flatMap, supU, List.mem_replicate] at hu
  obtain ⟨s, hs, _, rfl⟩ := hu
  have := (hok.2.2.2.2.1.1 s hs).2.1
  exact ⟨this.1, by have := this.2; show s.price ≤ _; omega⟩
end
section
set_option maxHeartbeats 8000000
def polOf (ps : List Pol) (k : Int) : Pol := if 0 ≤ k then ps.getD k.toNat Pol.zero else Pol.zero
def untAt (U : List Unt) (u : Int) : Unt := U.getD u.toNat ⟨0, 0, 0, 0⟩
def unitW (ps : List Pol) (U : List Unt) (rea u g : Int) : Int := if g = 4 then (untAt U u).share else if 0 ≤ g then wrt (polOf ps (untAt U u).cat) (untAt U u).share rea g else 0
def worthTo (ps : List Pol) (U : List Unt) (r : Ret) (i : Nat) : Int := (((r.us.zip r.gs).take i).map fun x => unitW ps U r.rea x.1 x.2).sum
def worthOf (ps : List Pol) (U : List Unt) (r : Ret) : Int := ((r.us.zip r.gs).map fun x => unitW ps U r.rea x.1 x.2).sum
theorem zero_right : Pol.zero.right := by
 simp [Pol.right, Pol.zero, okPts, okGrade]
theorem polOf_right {ps : List Pol} (h : RightT ps) (k : Int) : (polOf ps k).right := by
 unfold polOf
 split
 ·rw [l_s]
  by_cases hk : k.toNat < ps.length
  ·rw [l_r hk]; exact h.2 _ (l_v hk)
  ·rw [List.getElem?_eq_none (by omega)]; exact zero_right
 ·exact zero_right
theorem polOf_at {ps : List Pol} {i : Nat} (hi : i < ps.length) : polOf ps (i : Int) = ps[i] := by
 rw [polOf, if_pos (by omega), l_ap, l_s, l_r hi]; rfl
theorem polOf_out {ps : List Pol} {k : Int} (hk : k < 0 ∨ (ps.length : Int) ≤ k) : polOf ps k = Pol.zero := by
 unfold polOf
 split
 ·rw [l_s, List.getElem?_eq_none (by omega)]; rfl
 ·rfl
def shOk (U : List Unt) : Prop := ∀ u ∈ U, 0 ≤ u.share ∧ u.share ≤ 4294967296
theorem untAt_share {U : List Unt} (h : shOk U) (u : Int) : 0 ≤ (untAt U u).share ∧ (untAt U u).share ≤ 4294967296 := by
 unfold untAt
 rw [l_s]
 by_cases hk : u.toNat < U.length
 ·rw [l_r hk]; exact h _ (l_v hk)
 ·rw [List.getElem?_eq_none (by omega)]; exact ⟨by decide, by decide⟩
theorem unitW_bound {ps : List Pol} {U : List Unt} (hp : RightT ps) (hU : shOk U) (rea u g : Int) : 0 ≤ unitW ps U rea u g ∧ unitW ps U rea u g ≤ 4294967296 := by
 have h1 := untAt_share hU u
 unfold unitW
 split
 ·exact h1
 ·split
  ·have := wrt_bound (p := polOf ps (untAt U u).cat) (sh := (untAt U u).share) (r := rea) (g := g) (polOf_right hp _) h1.1
   omega
  ·omega
theorem worthTo_all {ps : List Pol} {U : List Unt} {r : Ret} (hl : r.gs.length = r.us.length) : worthTo ps U r r.us.length = worthOf ps U r := by
 unfold worthTo worthOf
 rw [List.take_of_length_le (by rw [List.length_zip]; omega)]
theorem worthTo_bound {ps : List Pol} {U : List Unt} {r : Ret} (hp : RightT ps) (hU : shOk U) (i : Nat) : 0 ≤ worthTo ps U r i ∧ worthTo ps U r i ≤ 4294967296 * i := by
 have h : ∀ l : List (Int × Int), 0 ≤ (l.map fun x => unitW ps U r.rea x.1 x.2).sum ∧ (l.map fun x => unitW ps U r.rea x.1 x.2).sum ≤ 4294967296 * l.length := by
  intro l
  induction l with
  | nil => simp
  | cons x l ih =>
   have := unitW_bound hp hU r.rea x.1 x.2
   rw [List.map_cons, List.sum_cons, l_f]
   omega
 have h1 := h ((r.us.zip r.gs).take i)
 have h2 : ((r.us.zip r.gs).take i).length ≤ i := by rw [l_ad]; omega
 unfold worthTo
 omega
theorem OfP_ok {h0 h : Heap} {l : List HP} {A : Option Addr} {c : Nat} {xs : List Pol} (S : St h0 h l) (ha : ∀ h', St h0 h' l → Arr Pol.enc 16 h' A xs) (k : Int) :
  CallsH Tryz.prog 121 [.slice A xs.length c, .int .i64 k] h fun v h' => St h0 h' l ∧ ∃ e, v = .tuple #[.agg (polOf xs k).enc.toArray, .int .i64 e] := by
 refine (Of_ok S ha k).mono ?_
 rintro v h' ⟨S, ⟨i, hi, rfl, rfl⟩ | ⟨hk, rfl⟩⟩
 ·exact ⟨S, 0, by rw [polOf_at hi]⟩
 ·exact ⟨S, 10, by rw [polOf_out hk]⟩
end
section
set_option maxHeartbeats 16000000
def priceOf (ss : List Sup) (sku : Int) : Option Int := match ss with
 | [] => none
 | s :: ss => if s.sku = sku then some s.price else priceOf ss sku
theorem priceOf_at {ss : List Sup} {sku : Int} : ∀ {i : Nat} (hi : i < ss.length), (∀ s ∈ ss.take i, s.sku ≠ sku) → ss[i].sku = sku → priceOf ss sku = some ss[i].price := by
 induction ss with
 | nil => intro i hi; simp at hi
 | cons s ss ih =>
  intro i hi h1 h2
  match i with
  | 0 => simp only [List.getElem_cons_zero] at h2 ⊢; rw [priceOf, if_pos h2]
  | i + 1 =>
   rw [priceOf, if_neg (h1 s (by simp))]
   exact ih (by simpa using hi) (fun x hx => h1 x (by simp [hx])) h2
theorem priceOf_no {ss : List Sup} {sku : Int} (h : ∀ s ∈ ss, s.sku ≠ sku) : priceOf ss sku = none := by
 induction ss with
 | nil => rfl
 | cons s ss ih => rw [priceOf, if_neg (h s (by simp)), ih fun x hx => h x (by simp [hx])]
theorem sku_snoc {ss : List Sup} {sku : Int} {i : Nat} (hi : i < ss.length) (h1 : ∀ s ∈ ss.take i, s.sku ≠ sku) (h2 : ¬ ss[i].sku = sku) : ∀ s ∈ ss.take (i + 1), s.sku ≠ sku := by
 rw [l_t hi]
 intro s hs
 rcases List.mem_append.1 hs with hs | hs
 ·exact h1 s hs
 ·rw [l_aa] at hs; rw [hs]; exact h2
theorem OPrice_ok {h0 : Heap} (C : Cfg) (sku : Int) (r : Arr Sup.enc 3 h0 C.A2 C.ss) (l2 : C.ss.length < 1000000) :
  CallsH Tryz.prog 119 [.agg C.enc.toArray, .int .i64 sku] h0 fun v h' => v = .tuple #[.int .i64 ((priceOf C.ss sku).getD 0), .int .i64 (if (priceOf C.ss sku).isSome then 0 else 7)] ∧ Fr h0 h' [] := by
 have S := St.nil h0
 refine EN i119.eq_1 fun K hK => Wa ?_
 (revert S; (try clear F); refine AL fun g h S F => ?_)
 refine Wc F @Cfg.enc.eq_1 ?_
 refine lI (fun ρ h' => ρ 1 = .int .i64 sku ∧ ρ 9 = .slice C.A2 C.ss.length C.c2 ∧ ρ 10 = .int .i64 C.ss.length ∧ (∃ i : Nat, ρ 11 = .int .i64 i ∧ i ≤ C.ss.length ∧ ∀ s ∈ C.ss.take i, s.sku ≠ sku) ∧ St h0 h' []) (fun ρ _ => C.ss.length - (iv (ρ 11)).toNat) ?_ ?_
 ·refine Wa ?_
  exact ⟨⟨0, rfl, by omega, by simp⟩, S.tl⟩
 clear S F
 rintro ρ h J hJ ⟨e1, e9, e10, ⟨i, e11, hi, hne⟩, S⟩
 refine Wc e10 e11 ?_
 refine cD (fun hlt => ?_) (fun hlt => ?_)
 ·have hil : i < C.ss.length := by omega
  obtain ⟨b, off, hA, hr1⟩ := (r.fr S.fr (by simp)).at hil
  have hat := fun h => priceOf_at (sku := sku) hil hne h
  have hsn := fun h => sku_snoc (sku := sku) hil hne h
  generalize C.ss[i] = x at *
  refine We e9 e11 hA hr1 ?_
  (revert S; (try clear F); refine AL fun q h S F => ?_)
  refine Wc F @Sup.enc.eq_1 ?_
  (revert S; (try clear F); refine ST fun h S F => ?_)
  by_cases c1 : x.sku = sku
  ·refine Wd F e1 c1 ?_
   exact hK _ _ ⟨by rw [hat c1]; rfl, S.fr⟩
  ·refine We F e1 c1 e11 ?_
   refine hJ _ _ ?_ ?_
   ·refine Wd e1 e9 e10 ?_
    exact ⟨⟨i + 1, rfl, by omega, hsn c1⟩, S.tl⟩
   ·refine Wb e11 ?_
    omega
 ·obtain rfl : i = C.ss.length := by omega
  rw [l_aj] at hne
  refine Wa ?_
  exact hK _ _ ⟨by rw [priceOf_no hne]; rfl, S.fr⟩
end
structure Wk where
 s : Sag
 sd : List Msg
structure Cmd where
 kind : Int
 ord : Int
 us : List Int
 rea : Int
 want : Int
 cred : Bool
 rma : Int
 unit : Int
 grade : Int
 days : Int
 key : Int
 yes : Bool
abbrev w64 (n : Int) : Int := IntKind.i64.wrap n
def mayK (a b : Int) : Prop := a = 0 ∧ b = 1 ∨ a = 1 ∧ (b = 2 ∨ b = 6) ∨ a = 2 ∧ (b = 3 ∨ b = 4 ∨ b = 5 ∨ b = 8) ∨ a = 3 ∧ b = 7 ∨ a = 7 ∧ (b = 3 ∨ b = 8) ∨ a = 8 ∧ (b = 0 ∨ b = 6)
instance (a b : Int) : Decidable (mayK a b) := by unfold mayK; exact inferInstance
def movU (u : KU) (to : Int) : KU := ⟨to, u.sku, u.recv || decide (to = 2), u.grad || decide (u.place = 2)⟩
def KU0 : KU := ⟨0, 0, false, false⟩
def moveE (K : List KU) (n to : Int) : Int := if 0 ≤ n ∧ n < K.length then (if mayK (placeK K n) to then 0 else 8) else 7
def moveK (K : List KU) (n to : Int) : List KU := if moveE K n to = 0 then K.set n.toNat (movU (K.getD n.toNat KU0) to) else K
def pickI (K : List KU) (sku : Int) : Option Nat := K.findIdx? fun u => decide (u.place = 3 ∧ u.sku = sku)
def nextV (st by_ : Int) : Option Int :=
 if by_ = 1 ∧ st = 1 then some 2 else if by_ = 2 ∧ st = 2 then some 3 else if by_ = 3 ∧ st = 3 then some 4 else if by_ = 4 ∧ st = 4 ∨ by_ = 5 ∧ st = 3 then some 5
 else if by_ = 6 ∧ st = 5 then some 6 else if (by_ = 7 ∨ by_ = 8 ∨ by_ = 9) ∧ (st = 1 ∨ st = 2) then some by_ else none
def Led.get (l : Led) (n : Int) : Int := if n = 0 then l.a else if n = 1 then l.b else if n = 2 then l.c else if n = 3 then l.d else l.e
def Led.put (l : Led) (n v : Int) : Led := if n = 0 then { l with a := v } else if n = 1 then { l with b := v } else if n = 2 then { l with c := v } else if n = 3 then { l with d := v } else { l with e := v }
def okC (n : Int) : Prop := -1125899906842624 ≤ n ∧ n ≤ 1125899906842624
instance (n : Int) : Decidable (okC n) := by unfold okC; exact inferInstance
def postP (l : Led) (a b sum : Int) : Except Int Led :=
 if sum < 0 then .error 1 else if okC (l.get a) ∧ okC (l.get b) ∧ okC sum ∧ okC (l.get a - sum) ∧ okC (l.get b + sum) then .ok ((l.put a (l.get a - sum)).put b (l.get b + sum)) else .error 9
def Sag.at_ (s : Sag) (n : Int) : Option Ret := if 1 ≤ n then s.R[(n - 1).toNat]? else none
def Wk.R (w : Wk) (i : Nat) : Ret := w.s.R.getD i Ret.zero
def Wk.put (w : Wk) (i : Nat) (r : Ret) : Wk := { w with s := { w.s with R := w.s.R.set i r } }
def Wk.led (w : Wk) (l : Led) : Wk := { w with s := { w.s with led := l } }
def Wk.mv (w : Wk) (n to : Int) : Wk := { w with s := { w.s with K := moveK w.s.K n to } }
def sayP (w : Wk) (kind num value : Int) : Wk :=
 ⟨{ w.s with key := w.s.key + 1, O := w.s.O ++ [⟨w.s.key, kind, num, value, 1, w.s.now + 1⟩] }, w.sd ++ [⟨w.s.key, kind, num, value, 1, w.s.now + 1⟩]⟩
def releaseP (w : Wk) (i : Nat) : Wk := if 0 ≤ (w.R i).res then (w.mv (w.R i).res 3).put i { w.R i with res := -1 } else w
def dropL (O : List Msg) (num : Int) : List Msg := O.filter fun m => !decide (m.rma = num ∧ m.kind = 1)
def endP (w : Wk) (num by_ : Int) : Except Int Wk :=
 match w.s.at_ num with
 | none => .error 7
 | some r => match nextV r.state by_ with
  | none => .error 8
  | some st =>
   let w2 := releaseP (w.put (num - 1).toNat { r with state := st }) (num - 1).toNat
   .ok { w2 with s := { w2.s with T := without w2.s.T num, O := dropL w2.s.O num } }
def stepP (w : Wk) (num by_ : Int) : Except Int Wk :=
 match w.s.at_ num with
 | none => .error 7
 | some r => match nextV r.state by_ with
  | none => .error 8
  | some st => .ok (w.put (num - 1).toNat { r with state := st })
def movesP (w : Wk) (us : List Int) (to : Int) : Wk := us.foldl (fun w u => w.mv u to) w
def setTW (w : Wk) (num d : Int) : Wk := { w with s := { w.s with T := setT w.s.T num d } }
def stopTW (w : Wk) (num : Int) : Wk := { w with s := { w.s with T := without w.s.T num } }
def pickP (w : Wk) (num : Int) : Except Int Wk :=
 (stepP w num 2).bind fun w1 => let w2 := movesP w1 (w1.R (num - 1).toNat).us 1; .ok (setTW w2 num (w2.s.now + 30))
def receiveP (w : Wk) (num : Int) : Except Int Wk :=
 (stepP w num 3).bind fun w1 => let w2 := movesP w1 (w1.R (num - 1).toNat).us 2; .ok (stopTW w2 num)
def wpost (w : Wk) (a b sum : Int) : Except Int Wk := (postP w.s.led a b sum).map w.led
def creditP (w : Wk) (i : Nat) (sum : Int) : Except Int Wk := wpost (w.put i { w.R i with credd := w64 ((w.R i).credd + sum) }) 1 3 sum
def payP (w : Wk) (i : Nat) (sum : Int) : Except Int Wk := if sum = 0 then .ok w else if (w.R i).cred = true then creditP w i sum else .ok (sayP w 2 (w.R i).num sum)
def closeP (w : Wk) (i : Nat) : Wk := if (w.R i).state = 5 ∧ waitsOf (w.R i).num w.s.O = 0 then w.put i { w.R i with state := 6 } else w
def settleP (ss : List Sup) (w : Wk) (i : Nat) (by_ : Int) : Except Int Wk :=
 match nextV (w.R i).state by_ with
 | none => .error 8
 | some st =>
  (wpost (w.put i { w.R i with state := st }) 0 1 (w.R i).worth).bind fun w1 =>
   let price := (priceOf ss (w1.R i).want).getD 0
   (if 0 ≤ (w1.R i).res then (if (w1.R i).worth < price then payP (releaseP w1 i) i (w1.R i).worth else payP (sayP w1 3 (w1.R i).num (w1.R i).res) i (w64 ((w1.R i).worth - price))) else payP w1 i (w1.R i).worth).map fun w2 => closeP w2 i
def loseTo (U : List Unt) (w : Wk) (i : Nat) : Nat → Wk
 | 0 => w
 | j + 1 =>
  let w1 := loseTo U w i j
  let u := (w1.R i).us.getD j 0
  (w1.mv u 6).put i { w1.R i with gs := (w1.R i).gs.set j 4, worth := w64 ((w1.R i).worth + (untAt U u).share) }
def loseP (ss : List Sup) (U : List Unt) (w : Wk) (i : Nat) : Except Int Wk := settleP ss (loseTo U w i (w.R i).us.length) i 5
def dueP (ss : List Sup) (U : List Unt) (w : Wk) (num : Int) : Except Int Wk :=
 match w.s.at_ num with
 | none => .error 7
 | some r => if r.state = 3 then loseP ss U w (num - 1).toNat else if r.state = 1 ∨ r.state = 2 then endP w num 8 else .ok w
def foldE {α : Type} (f : Wk → α → Except Int Wk) : Wk → List α → Except Int Wk
 | w, [] => .ok w
 | w, x :: l => (f w x).bind fun w1 => foldE f w1 l
def tickP (ss : List Sup) (U : List Unt) (w : Wk) (days : Int) : Except Int (Wk × List Msg) :=
 if days < 1 ∨ 1000 < days then .error 1 else if 100000 < w.s.now + days then .error 2 else
  let now := w.s.now + days
  (foldE (dueP ss U) { w with s := { w.s with now := now, T := lateT w.s.T now } } ((dueT w.s.T now).map Tm.num)).bind fun w1 =>
   (foldE (fun w (m : Msg) => endP w m.rma 8) { w1 with s := { w1.s with O := leftOf now w1.s.O } } (givenOf now w1.s.O)).map fun w2 => (w2, saidOf now w1.s.O)
def paidP (w : Wk) (i : Nat) (sum : Int) (yes : Bool) : Except Int Wk :=
 if yes = true then wpost (w.put i { w.R i with paid := w64 ((w.R i).paid + sum) }) 1 2 sum else creditP w i sum
def shippedP (ss : List Sup) (w : Wk) (i : Nat) (yes : Bool) : Except Int Wk :=
 let price := (priceOf ss (w.R i).want).getD 0
 if yes = true then
  let w1 := w.put i { w.R i with given := w64 ((w.R i).given + price) }
  if moveE w1.s.K (w1.R i).res 8 = 0 then wpost (w1.mv (w1.R i).res 8) 1 4 price else .error (moveE w1.s.K (w1.R i).res 8)
 else payP (releaseP w i) i price
def backTo (yes : Bool) : Int := if yes = true then 0 else 6
def replyP (ss : List Sup) (w : Wk) (key : Int) (yes : Bool) : Except Int Wk :=
 match w.s.O.findIdx? fun m => decide (m.key = key) with
 | none => .error 16
 | some j =>
  let m := w.s.O.getD j Msg.zero
  let w1 : Wk := { w with s := { w.s with O := w.s.O.take j ++ w.s.O.drop (j + 1) } }
  match w1.s.at_ m.rma with
  | none => .error 7
  | some _ =>
   let i := (m.rma - 1).toNat
   if m.kind = 1 ∧ yes = false then endP w1 m.rma 8 else
    (if m.kind = 1 then stepP w1 m.rma 1 else if m.kind = 2 then paidP w1 i m.value yes else if m.kind = 3 then shippedP ss w1 i yes
     else if moveE w1.s.K m.value (backTo yes) = 0 then .ok (w1.mv m.value (backTo yes)) else .error (moveE w1.s.K m.value (backTo yes))).map fun w2 => closeP w2 i
noncomputable def gradeE (r : Ret) (unit grade : Int) : Except Int Nat := if dcd (r.right ∧ btw grade 0 4) = false then .error 1 else match r.us.findIdx? fun u => decide (u = unit) with
 | none => .error 7
 | some j => if r.gs.getD j 0 ≠ -1 then .error 8 else .ok j
noncomputable def gradeK (ps : List Pol) (ss : List Sup) (U : List Unt) (w : Wk) (c : Cmd) (i j : Nat) : Except Int Wk :=
 let r := w.R i
 let x := untAt U c.unit
 let p := polOf ps x.cat
 let w1 := w.put i { r with gs := r.gs.set j c.grade, worth := w64 (r.worth + wrt p x.share r.rea c.grade) }
 let w2 := if p.gto c.grade ≠ 0 then w1.mv c.unit (p.gto c.grade) else sayP (w1.mv c.unit 8) 4 r.num c.unit
 if (w2.R i).gs.contains (-1) = true then .ok w2 else settleP ss w2 i 4
noncomputable def gradeP (ps : List Pol) (ss : List Sup) (U : List Unt) (w : Wk) (c : Cmd) : Except Int Wk :=
 match w.s.at_ c.rma with
 | none => .error 7
 | some r => if r.state ≠ 4 then .error 8 else match gradeE r c.unit c.grade with
  | .error e => .error e
  | .ok j => if c.grade = 4 then .error 1 else gradeK ps ss U w c (c.rma - 1).toNat j
def holderS (s : Sag) (u : Int) : Int := ((s.R.find? fun r => !decide (6 ≤ r.state ∧ r.state ≤ 9) && r.us.contains u).map Ret.num).getD 0
def mayP (p : Pol) (days : Int) (wants : Bool) : Int := if p.fin = true ∨ p.exc = true ∧ wants = false then 12 else if days < 0 ∨ p.w < days then 11 else 0
def askUnit (U : List Unt) (c : Cmd) (i : Nat) : Prop := (0 < i → c.us.getD (i - 1) 0 < c.us.getD i 0) ∧ 0 ≤ c.us.getD i 0 ∧ c.us.getD i 0 < U.length ∧ (untAt U (c.us.getD i 0)).ord = c.ord
def askWare (ps : List Pol) (os : List Odr) (U : List Unt) (s : Sag) (c : Cmd) (u : Int) : Int :=
 if placeK s.K u ≠ 0 ∨ 0 < holderS s u then 13 else mayP (polOf ps (untAt U u).cat) (s.now - ((os[c.ord.toNat]?).map Odr.day).getD 0) (decide (0 < c.want))
def firstE {α : Type} (f : α → Int) : List α → Int
 | [] => 0
 | x :: l => if f x = 0 then firstE f l else f x
noncomputable def askedP (ps : List Pol) (os : List Odr) (U : List Unt) (s : Sag) (c : Cmd) : Int :=
 if dcd (∀ i, i < c.us.length → askUnit U c i) = false then 1 else if c.rea < 0 ∨ 4 ≤ c.rea ∨ 1000 < c.want then 1 else firstE (askWare ps os U s c) c.us
def wantedP (ss : List Sup) (w : Wk) (sku : Int) : Except Int (Int × Wk) :=
 if sku = 0 then .ok (-1, w) else match priceOf ss sku with
 | none => .error 14
 | some _ => match pickI w.s.K sku with
  | none => .error 14
  | some j => .ok ((j : Int), { w with s := { w.s with K := w.s.K.set j { w.s.K.getD j KU0 with place := 7 } } })
noncomputable def requestP (ps : List Pol) (os : List Odr) (ss : List Sup) (U : List Unt) (w : Wk) (c : Cmd) : Except Int (Int × Wk) :=
 if 100 ≤ w.s.R.length then .error 15 else if c.ord < 0 ∨ (os.length : Int) ≤ c.ord then .error 7 else
  if askedP ps os U w.s c ≠ 0 then .error (askedP ps os U w.s c) else
   (wantedP ss w c.want).map fun x =>
    let num : Int := w.s.R.length + 1
    let r : Ret := ⟨num, c.ord, c.rea, c.want, x.1, c.cred || c.us.any fun u => (polOf ps (untAt U u).cat).cre, 1, w.s.now, c.us, c.us.map fun _ => -1, 0, 0, 0, 0⟩
    (num, sayP { x.2 with s := { x.2.s with R := w.s.R ++ [r], T := setT x.2.s.T num (w.s.now + 14) } } 1 num 0)
noncomputable def doP (D : Cfg) (U : List Unt) (w : Wk) (c : Cmd) : Except Int (Int × List Msg × Wk) :=
 if c.kind = 1 then (requestP D.ps D.os D.ss U w c).map fun x => (x.1, [], x.2)
 else if c.kind = 2 then (endP w c.rma 9).map fun x => (0, [], x)
 else if c.kind = 3 then (endP w c.rma 7).map fun x => (0, [], x)
 else if c.kind = 4 then (pickP w c.rma).map fun x => (0, [], x)
 else if c.kind = 5 then (receiveP w c.rma).map fun x => (0, [], x)
 else if c.kind = 6 then (gradeP D.ps D.ss U w c).map fun x => (0, [], x)
 else if c.kind = 7 then (tickP D.ss U w c.days).map fun x => (0, x.2, x.1)
 else (replyP D.ss w c.key c.yes).map fun x => (0, [], x)
def Cmd.bare (c : Cmd) : Cmd := if c.kind = 1 then { c with ord := 0, us := [], rea := 0, want := 0, cred := false } else if 2 ≤ c.kind ∧ c.kind ≤ 5 then { c with rma := 0 } else if c.kind = 6 then { c with rma := 0, unit := 0, grade := 0 } else if c.kind = 7 then { c with days := 0 } else if c.kind = 8 then { c with key := 0, yes := false } else c
def Cmd.nought (c : Cmd) : Prop := c.ord = 0 ∧ c.us = [] ∧ c.rea = 0 ∧ c.want = 0 ∧ c.cred = false ∧ c.rma = 0 ∧ c.unit = 0 ∧ c.grade = 0 ∧ c.days = 0 ∧ c.key = 0 ∧ c.yes = false
def Cmd.fits (c : Cmd) : Prop :=
 if c.kind = 1 then (1 ≤ c.us.length ∧ c.us.length ≤ 60) ∧ btw c.ord 0 255 ∧ btw c.rea 0 255 ∧ btw c.want 0 65535 ∧ ∀ u ∈ c.us, btw u 0 255
 else if 2 ≤ c.kind ∧ c.kind ≤ 5 then btw c.rma 0 65535 else if c.kind = 6 then btw c.rma 0 65535 ∧ btw c.unit 0 255 ∧ btw c.grade 0 255 else if c.kind = 7 then btw c.days 0 65535 else if c.kind = 8 then btw c.key 0 4294967295 else False
def Cmd.formed (c : Cmd) : Prop := c.fits ∧ c.bare.nought
noncomputable def takeP (D : Cfg) (U : List Unt) (s : Sag) (c : Cmd) : Int × List Msg × Int × Sag :=
 if dcd c.formed = false then (0, [], 1, s) else match doP D U ⟨s, []⟩ c with
 | .error e => (0, [], e, s)
 | .ok x => (x.1, x.2.2.sd ++ x.2.1, 0, x.2.2.s)
section
set_option maxHeartbeats 4000000
section
variable {h0 h : Heap} {l : List HP} {t : Nat} {L : List Tm}
end
end
theorem insT_eq (W : List Tm) (x : Tm) : insT W x = (W.takeWhile fun y => decide (aheadT y x)) ++ x :: W.dropWhile fun y => decide (aheadT y x) := by
 have h1 : W.take (posT W x) = W.takeWhile fun y => decide (aheadT y x) := (List.prefix_iff_eq_take.1 (List.takeWhile_prefix _)).symm
 have h2 : W.drop (posT W x) = W.dropWhile fun y => decide (aheadT y x) := by
  have h3 : (W.takeWhile fun y => decide (aheadT y x)) ++ (W.dropWhile fun y => decide (aheadT y x)) = W := List.takeWhile_append_dropWhile
  conv => lhs; rw [← h3]
  unfold posT
  rw [h3]
  conv => lhs; arg 2; rw [← h3]
  rw [List.drop_left]
 unfold insT
 rw [h1, h2]
theorem take_ahead {W : List Tm} {x y : Tm} (hy : y ∈ W.takeWhile fun y => decide (aheadT y x)) : aheadT y x := by
 have := List.all_takeWhile (p := fun y => decide (aheadT y x)) (l := W)
 rw [List.all_eq_true] at this
 simpa using this y hy
theorem drop_not {W : List Tm} (hs : W.Pairwise aheadT) {x y : Tm} (hy : y ∈ W.dropWhile fun y => decide (aheadT y x)) : ¬ aheadT y x := by
 induction W with
 | nil => simp at hy
 | cons a W ih =>
  rw [List.dropWhile_cons] at hy
  by_cases ha : aheadT a x
  ·rw [if_pos (by simpa using ha)] at hy
   exact ih (List.pairwise_cons.1 hs).2 hy
  ·rw [if_neg (by simpa using ha)] at hy
   rcases List.mem_cons.1 hy with rfl | hy
   ·exact ha
   ·exact fun h => ha (aheadT_trans ((List.pairwise_cons.1 hs).1 y hy) h)
theorem ahead_total {x y : Tm} (h1 : ¬ aheadT y x) (h2 : y.num ≠ x.num) : aheadT x y := by
 unfold aheadT at *
 omega
theorem good_ins {W : List Tm} {x : Tm} (hg : GoodT W) (hx : ∀ y ∈ W, y.num ≠ x.num) : GoodT (insT W x) := by
 rw [insT_eq]
 have hsub1 : ∀ y ∈ W.takeWhile (fun y => decide (aheadT y x)), y ∈ W := fun y hy => (List.takeWhile_sublist _).subset hy
 have hsub2 : ∀ y ∈ W.dropWhile (fun y => decide (aheadT y x)), y ∈ W := fun y hy => (List.dropWhile_sublist _).subset hy
 have hW : (W.takeWhile fun y => decide (aheadT y x)) ++ (W.dropWhile fun y => decide (aheadT y x)) = W := List.takeWhile_append_dropWhile
 constructor
 ·have h1 := hg.1
  rw [← hW, List.pairwise_append] at h1
  rw [List.pairwise_append, List.pairwise_cons]
  refine ⟨h1.1, ⟨fun y hy => ahead_total (drop_not hg.1 hy) (hx y (hsub2 y hy)), h1.2.1⟩, fun a ha b hb => ?_⟩
  rcases List.mem_cons.1 hb with rfl | hb
  ·exact take_ahead ha
  ·exact h1.2.2 a ha b hb
 ·have h1 := hg.2
  rw [← hW, List.pairwise_append] at h1
  rw [List.pairwise_append, List.pairwise_cons]
  refine ⟨h1.1, ⟨fun y hy => (hx y (hsub2 y hy)).symm, h1.2.1⟩, fun a ha b hb => ?_⟩
  rcases List.mem_cons.1 hb with rfl | hb
  ·exact hx a (hsub1 a ha)
  ·exact h1.2.2 a ha b hb
theorem good_sub {L M : List Tm} (hg : GoodT L) (hs : M.Sublist L) : GoodT M := ⟨hg.1.sublist hs, hg.2.sublist hs⟩
theorem good_without {L : List Tm} (hg : GoodT L) (n : Int) : GoodT (without L n) := good_sub hg List.filter_sublist
theorem good_late {L : List Tm} (hg : GoodT L) (d : Int) : GoodT (lateT L d) := good_sub hg (List.dropWhile_sublist _)
theorem without_num {L : List Tm} {n : Int} {y : Tm} (hy : y ∈ without L n) : y ∈ L ∧ y.num ≠ n := by
 unfold without at hy
 rw [List.mem_filter] at hy
 exact ⟨hy.1, by simpa [isNum] using hy.2⟩
theorem good_set {L : List Tm} (hg : GoodT L) (n d : Int) : GoodT (setT L n d) := good_ins (good_without hg n) fun y hy => (without_num hy).2
end Go.Proofs.YtcgbhcgfdcfmaaaGreat.MX
