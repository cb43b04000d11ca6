import Derived.Test.YtcgbhcgfdcfmaaaGreatK14
import Derived.Test.YtcgbhcgfdcfmaaaGreatK18
import Derived.Test.YtcgbhcgfdcfmaaaGreatK12
namespace Go.Proofs.YtcgbhcgfdcfmaaaGreat.MX
open Go Go.Proofs
set_option linter.unusedSimpArgs false
set_option linter.unusedVariables false
section
set_option maxHeartbeats 4000000
instance rkDec (Kf : Int → Nat) (x y : Int) : Decidable (Rk Kf x y) := by unfold Rk; exact inferInstance
theorem rkle_trans {Kf : Int → Nat} {a b c : Int} (h1 : Rk Kf a b ∨ a = b) (h2 : Rk Kf b c ∨ b = c) : Rk Kf a c ∨ a = c := by
 rcases h1 with h1 | rfl
 ·rcases h2 with h2 | rfl
  ·exact .inl (h1.trans h2)
  ·exact .inl h1
 ·exact h2
theorem rkle_total {Kf : Int → Nat} (a b : Int) : (Rk Kf a b ∨ a = b) ∨ (Rk Kf b a ∨ b = a) := by
 unfold Rk
 omega
theorem isShares_ex (sum all : Nat) (ws : List Nat) : ∃ out, IsShares sum all ws out := by
 have hs := List.pairwise_mergeSort (le := fun a b : Int => decide (Rk (fun i => (restW sum all ws).getD i.toNat 0) a b ∨ a = b)) (by
  intro a b c h1 h2
  exact decide_eq_true (rkle_trans (of_decide_eq_true h1) (of_decide_eq_true h2))) (by
  intro a b
  rw [Bool.or_eq_true, decide_eq_true_eq, decide_eq_true_eq]
  exact rkle_total a b) (natsI ws.length)
 have hp := List.mergeSort_perm (natsI ws.length) (fun a b : Int => decide (Rk (fun i => (restW sum all ws).getD i.toNat 0) a b ∨ a = b))
 have hn : ((natsI ws.length).mergeSort (fun a b : Int => decide (Rk (fun i => (restW sum all ws).getD i.toNat 0) a b ∨ a = b))).Nodup := hp.nodup_iff.2 (natsI_nodup _)
 refine ⟨_, _, hp, ?_, rfl⟩
 have := List.Pairwise.and hs hn
 refine this.imp ?_
 rintro a b ⟨h1, h2⟩
 simp only [decide_eq_true_eq] at h1
 exact h1.resolve_right h2
noncomputable def shF (sum : Nat) (ws : List Int) : List Int := Classical.choose (isShares_ex sum (effW ws).sum (effW ws))
theorem shF_is (sum : Nat) (ws : List Int) : IsShares sum (effW ws).sum (effW ws) (shF sum ws) := Classical.choose_spec (isShares_ex sum (effW ws).sum (effW ws))
structure Unt where
 ord : Int
 sku : Int
 cat : Int
 share : Int
def Unt.enc (u : Unt) : List Value := [.int .i64 u.ord, .int .i64 u.sku, .int .i64 u.cat, .int .i64 u.share]
theorem Unt.enc_len (x : Unt) : x.enc.length = 4 := rfl
theorem Unt.enc_plain (x : Unt) : pC x.enc = true := rfl
def linU (i : Int) (l : Lin) : List Unt := List.replicate l.count.toNat ⟨i, l.sku, l.cat, l.price⟩
def linP (l : Lin) : List Int := List.replicate l.count.toNat l.price
def expandU (i : Int) (ls : List Lin) : List Unt := ls.flatMap (linU i)
def priceL (ls : List Lin) : List Int := ls.flatMap linP
def psum (o : Odr) : Nat → Int | 0 => o.disc | 1 => o.tax | _ => o.ship
def psgn : Nat → Int | 0 => -1 | _ => 1
def addS (sg : Int) (sh : List Int) (U : List Unt) : List Unt := List.zipWith (fun u s => { u with share := u.share + sg * s }) U sh
noncomputable def unitsR (o : Odr) (i : Int) : Nat → List Unt
 | 0 => expandU i o.ls
 | r + 1 => addS (psgn r) (shF (psum o r).toNat (priceL o.ls)) (unitsR o i r)
noncomputable def unitsOf (o : Odr) (i : Int) : List Unt := unitsR o i 3
def supU (s : Sup) : List Unt := List.replicate s.count.toNat ⟨-1, s.sku, 0, s.price⟩
noncomputable def ordsU : Nat → List Odr → List Unt
 | _, [] => []
 | i, o :: os => unitsOf o i ++ ordsU (i + 1) os
noncomputable def unitsAll (C : Cfg) : List Unt := ordsU 0 C.os ++ C.ss.flatMap supU
theorem ordsU_app (a b : List Odr) : ∀ i, ordsU i (a ++ b) = ordsU i a ++ ordsU (i + a.length) b := by
 induction a with
 | nil => intro i; simp [ordsU]
 | cons o a ih => intro i; simp only [l_j, ordsU, ih, l_f, l_q]; rw [show i + 1 + a.length = i + (a.length + 1) by omega]
structure OkO (o : Odr) : Prop where
 ls : ∃ k : Int, ∀ l ∈ o.ls, okLine k l
 n0 : 1 ≤ o.ls.length
 n1 : o.ls.length ≤ 8
 cnt : cntOf o.ls ≤ 200
 disc : okPrice o.disc
 tax : okPrice o.tax
 ship : okPrice o.ship
 le : o.disc ≤ allOf o.ls
theorem len_sum (ls : List Lin) (h : ∀ l ∈ ls, 0 ≤ l.count) : ((priceL ls).length : Int) = cntOf ls ∧ (priceL ls).sum = allOf ls ∧ ∀ i, (expandU i ls).length = (priceL ls).length ∧ (expandU i ls).map Unt.share = priceL ls := by
 induction ls with
 | nil => exact ⟨rfl, rfl, fun _ => ⟨rfl, rfl⟩⟩
 | cons x ls ih =>
  obtain ⟨h1, h2, h3⟩ := ih fun l hl => h l (by simp [hl])
  have hx := h x (by simp)
  have hr : ∀ (n : Nat) (p : Int), (List.replicate n p).sum = p * n := by
   intro n p
   induction n with
   | zero => simp
   | succ n ih => rw [List.replicate_succ, List.sum_cons, ih, Int.natCast_succ, Int.mul_add, Int.mul_one, Int.add_comm]
  refine ⟨?_, ?_, fun i => ⟨?_, ?_⟩⟩
  ·simp only [priceL, List.flatMap_cons, l_m, linP, l_ah, cntOf, List.map_cons, List.sum_cons] at h1 ⊢
   omega
  ·simp only [priceL, List.flatMap_cons, List.sum_append, linP, allOf, List.map_cons, List.sum_cons] at h2 ⊢
   rw [h2, hr, Int.toNat_of_nonneg hx]
  ·have := (h3 i).1
   simp only [expandU, priceL, List.flatMap_cons, l_m, linU, linP, l_ah] at this ⊢
   omega
  ·have := (h3 i).2
   simp only [expandU, priceL, List.flatMap_cons, l_al, linU, linP, List.map_replicate] at this ⊢
   rw [this]
theorem OkO.count {o : Odr} (h : OkO o) : ∀ l ∈ o.ls, 0 ≤ l.count := fun l hl => by
 obtain ⟨k, hk⟩ := h.ls
 have := (hk l hl).1.2.2
 omega
theorem priceL_fit {o : Odr} (h : OkO o) : ∀ p ∈ priceL o.ls, okPrice p := by
 intro p hp
 obtain ⟨k, hk⟩ := h.ls
 simp only [priceL, List.mem_flatMap, linP, List.mem_replicate] at hp
 obtain ⟨l, hl, _, rfl⟩ := hp
 exact (hk l hl).1.2.1
theorem OkO.okp {o : Odr} (h : OkO o) (r : Nat) : okPrice (psum o r) := by
 match r with
 | 0 => exact h.disc
 | 1 => exact h.tax
 | _ + 2 => exact h.ship
theorem OkO.ask {o : Odr} (h : OkO o) {s : Int} (hs : okPrice s) : askS s (priceL o.ls) = 0 := by
 obtain ⟨h1, h2, _⟩ := len_sum o.ls h.count
 obtain ⟨k, hk⟩ := h.ls
 have hb := all_bound hk
 have := h.n0
 have := h.n1
 have := h.cnt
 obtain ⟨hs0, hs1⟩ := hs
 unfold askS
 rw [if_neg, if_neg (by omega)]
 rintro (h' | h' | h')
 ·omega
 ·omega
 ·exact h' fun p hp => by
   have := priceL_fit h p hp
   exact ⟨this.1, by have := this.2; omega⟩
theorem le_sumI : ∀ {l : List Int}, (∀ x ∈ l, 0 ≤ x) → ∀ x ∈ l, x ≤ l.sum
 | [], _, x, hx => by cases hx
 | y :: l, h, x, hx => by
  rw [List.sum_cons]
  have h1 := h y (by simp)
  have h2 := le_sumI (l := l) fun z hz => h z (by simp [hz])
  have h3 := take_sum_le (l := l) (fun z hz => h z (by simp [hz])) 0
  simp only [l_an, List.sum_nil] at h3
  rcases List.mem_cons.1 hx with rfl | hx
  ·omega
  ·have := h2 x hx; omega
theorem shF_len {s : Nat} {ws : List Int} (hask : askS s ws = 0) : (shF s ws).length = ws.length ∧ (shF s ws).sum = s ∧ (∀ x ∈ shF s ws, 0 ≤ x ∧ x ≤ (s : Int)) := by
 obtain ⟨h1, h2, h3, _⟩ := shares_sums hask (shF_is s ws)
 exact ⟨h1, h2, fun x hx => ⟨h3 x hx, by rw [← h2]; exact le_sumI h3 x hx⟩⟩
theorem OkO.sh {o : Odr} (h : OkO o) (r : Nat) : (shF (psum o r).toNat (priceL o.ls)).length = (priceL o.ls).length ∧ (shF (psum o r).toNat (priceL o.ls)).sum = psum o r ∧ (∀ x ∈ shF (psum o r).toNat (priceL o.ls), 0 ≤ x ∧ x ≤ 1073741824) := by
 have hp := h.okp r
 have ha := h.ask hp
 have hp1 := hp.1
 have hp2 := hp.2
 rw [← Int.toNat_of_nonneg hp1] at ha
 obtain ⟨h1, h2, h3⟩ := shF_len ha
 refine ⟨h1, by rw [h2]; omega, fun x hx => ⟨(h3 x hx).1, ?_⟩⟩
 have := (h3 x hx).2
 omega
theorem addS_len {sg : Int} {sh : List Int} {U : List Unt} (h : sh.length = U.length) : (addS sg sh U).length = U.length := by
 rw [addS, List.length_zipWith]; omega
theorem unitsR_len {o : Odr} (h : OkO o) (i : Int) : ∀ r, (unitsR o i r).length = (priceL o.ls).length
 | 0 => ((len_sum o.ls h.count).2.2 i).1
 | r + 1 => by
  have := unitsR_len h i r
  rw [unitsR, addS_len (by rw [(h.sh r).1, this]), this]
theorem psgn_cases (r : Nat) : psgn r = -1 ∨ psgn r = 1 := by
 match r with
 | 0 => exact .inl rfl
 | _ + 1 => exact .inr rfl
theorem unitsR_bound {o : Odr} (h : OkO o) (i : Int) : ∀ r, ∀ u ∈ unitsR o i r, -1073741824 * (r : Int) ≤ u.share ∧ u.share ≤ 1073741824 * ((r : Int) + 1)
 | 0, u, hu => by
  have h1 := ((len_sum o.ls h.count).2.2 i).2
  obtain ⟨p1, p2⟩ := priceL_fit h u.share (by rw [← h1]; exact l_ai hu)
  constructor <;> omega
 | r + 1, u, hu => by
  rw [unitsR, addS] at hu
  obtain ⟨k, hk, rfl⟩ := l_af hu
  rw [List.getElem_zipWith]
  rw [List.length_zipWith] at hk
  have h1 := unitsR_bound h i r _ (l_v (l := unitsR o i r) (n := k) (by omega))
  have h2 := (h.sh r).2.2 _ (l_v (l := shF (psum o r).toNat (priceL o.ls)) (n := k) (by omega))
  generalize (unitsR o i r)[k]'(by omega) = v at *
  generalize (shF (psum o r).toNat (priceL o.ls))[k]'(by omega) = x at *
  show -1073741824 * ((r + 1 : Nat) : Int) ≤ v.share + psgn r * x ∧ v.share + psgn r * x ≤ 1073741824 * (((r + 1 : Nat) : Int) + 1)
  rcases psgn_cases r with e | e
  ·rw [e]; omega
  ·rw [e]; omega
theorem set_mid {α : Type} (X U : List α) (hl : X.length = U.length) {k : Nat} (hk : k < U.length) : (X.take k ++ U.drop k).set k (X[k]'(by omega)) = X.take (k + 1) ++ U.drop (k + 1) := by
 rw [List.set_append_right _ _ (by rw [l_ad]; omega), l_ad, show k - min k X.length = 0 by omega, List.drop_eq_getElem_cons hk, l_h, l_t (by omega), l_q]
 rfl
theorem mid_len {α : Type} (X U : List α) (hl : X.length = U.length) (k : Nat) : (X.take k ++ U.drop k).length = U.length := by
 rw [l_m, l_ad, List.length_drop]; omega
theorem mid_get {α : Type} (X U : List α) (hl : X.length = U.length) {k : Nat} (hk : k < U.length) : (X.take k ++ U.drop k)[k]'(by rw [mid_len X U hl]; exact hk) = U[k] := by
 rw [List.getElem_append_right (by rw [l_ad]; omega)]
 simp [l_ad, show k - min k X.length = 0 by omega]
end
section
set_option maxHeartbeats 8000000
theorem expandU_snoc (i : Int) {ls : List Lin} {k : Nat} (hk : k < ls.length) : expandU i (ls.take (k + 1)) = expandU i (ls.take k) ++ linU i ls[k] := by
 rw [l_t hk, expandU, List.flatMap_append]
 simp [expandU]
theorem priceL_snoc {ls : List Lin} {k : Nat} (hk : k < ls.length) : priceL (ls.take (k + 1)) = priceL (ls.take k) ++ linP ls[k] := by
 rw [l_t hk, priceL, List.flatMap_append]
 simp [priceL]
theorem cntTake_le {k : Int} {ls : List Lin} (h : ∀ l ∈ ls, okLine k l) (i : Nat) : cntOf (ls.take i) ≤ cntOf ls := by
 have h1 := all_bound (k := k) (ls := ls.drop i) fun l hl => h l (List.mem_of_mem_drop hl)
 have : cntOf ls = cntOf (ls.take i) + cntOf (ls.drop i) := by
  conv => lhs; rw [← List.take_append_drop i ls]
  rw [cntOf, l_al, List.sum_append]; rfl
 omega
section
variable {h0 h : Heap} {l : List HP}
theorem own_part {α : Type} {enc : α → List Value} {sz T b n c : Nat} {D : List α} (hsz : ∀ x, (enc x).length = sz) (S : St h0 h (ownA enc sz T (.slice (some ⟨b, 0, none⟩) n c) D :: l)) {i j : Nat} (hi : i < D.length) (hj : j < sz) : rd1 h (.pointer (some ⟨b, i * sz + j, none⟩)) = (enc D[i])[j]? := by
 obtain ⟨b', o', hA, hr⟩ := S.arr hsz i hi
 cases hA
 have := rP hr j hj
 simpa using this
theorem units_ok (o : Odr) (num : Int) (ok : OkO o) (ha : ∀ h', St h0 h' l → Arr Lin.enc 4 h' o.A o.ls) (S : St h0 h l) :
  CallsH Tryz.prog 42 [.agg o.enc.toArray, .int .i64 num] h fun v h' => St h0 h' (ownA Unt.enc 4 72 v (unitsOf o num) :: l) := by
 obtain ⟨kk, hlk⟩ := ok.ls
 have hn0 := ok.n0
 have hn1 := ok.n1
 have hcnt := ok.cnt
 refine EN i42.eq_1 fun K hK => Wa ?_
 (revert S; (try clear F); refine AL fun g h S F => ?_)
 have S : St h0 h (ownA zEnc 1 2 (.slice none 0 0) [] :: ownA Unt.enc 4 72 (.slice none 0 0) [] :: cellA g o.enc 90 :: l) := S.nilS.nilS
 refine Wc F @Odr.enc.eq_1 ?_
 refine lI (fun ρ h' => ρ 1 = .int .i64 num ∧ ρ 2 = .pointer (some ⟨g, 0, none⟩) ∧ ρ 16 = .slice o.A o.ls.length o.c ∧ ρ 17 = .int .i64 o.ls.length ∧ ∃ i : Nat, ρ 18 = .int .i64 i ∧ i ≤ o.ls.length ∧
  ∃ (Ap Au : Option Addr) (cp cu : Nat), ρ 6 = .slice Ap (priceL (o.ls.take i)).length cp ∧ ρ 5 = .slice Au (priceL (o.ls.take i)).length cu ∧
  St h0 h' (ownA zEnc 1 2 (.slice Ap (priceL (o.ls.take i)).length cp) (priceL (o.ls.take i)) :: ownA Unt.enc 4 72 (.slice Au (priceL (o.ls.take i)).length cu) (expandU num (o.ls.take i)) :: cellA g o.enc 90 :: l)) (fun ρ _ => o.ls.length - (iv (ρ 18)).toNat) ?_ ?_
 ·refine Wa ?_
  exact ⟨0, rfl, by omega, none, none, 0, 0, rfl, rfl, S⟩
 clear S F
 rintro ρ h J hJ ⟨e1, e2, e16, e17, i, e18, hi, Ap, Au, cp, cu, e6, e5, S⟩
 refine Wc e17 e18 ?_
 refine cD (fun hlt => ?_) (fun hlt => ?_)
 ·have hil : i < o.ls.length := by omega
  obtain ⟨b, off, hA, hr1⟩ := (ha h S.tl.tl.tl).at hil
  have hs1 := expandU_snoc num hil
  have hs2 := priceL_snoc hil
  have hct := cntTake_le hlk (i + 1)
  have hc1 := cntOf_snoc hil
  have hpl := (len_sum (o.ls.take i) fun x hx => ok.count x (List.mem_of_mem_take hx)).1
  have hul := ((len_sum (o.ls.take i) fun x hx => ok.count x (List.mem_of_mem_take hx)).2.2 num).1
  have hx := hlk _ (l_v hil)
  generalize o.ls[i] = x at *
  obtain ⟨⟨_, ⟨hp0, hp1⟩, hx0, hx1⟩, _⟩ := hx
  generalize hP : priceL (o.ls.take i) = P at *
  generalize hU : expandU num (o.ls.take i) = U at *
  refine We e16 e18 hA hr1 ?_
  (revert S; (try clear F); refine AL fun q h S F => ?_)
  refine Wc F @Lin.enc.eq_1 ?_
  (revert S; (try clear F); refine ST fun h S F => ?_)
  refine Wb F ?_
  have hadd : ∀ j : Nat, j ≤ x.count.toNat → (P ++ List.replicate j x.price).length ≤ 200 := fun j hj => by rw [l_m, l_ah]; omega
  refine lI (fun ρ' h' => ρ' 1 = .int .i64 num ∧ ρ' 2 = .pointer (some ⟨g, 0, none⟩) ∧ ρ' 16 = .slice o.A o.ls.length o.c ∧ ρ' 17 = .int .i64 o.ls.length ∧ ρ' 18 = .int .i64 i ∧ ρ' 8 = .pointer (some ⟨q, 0, none⟩) ∧ ρ' 23 = .int .i64 x.count ∧ ∃ j : Nat, ρ' 24 = .int .i64 j ∧ j ≤ x.count.toNat ∧
   ∃ (Ap Au : Option Addr) (cp cu : Nat), ρ' 6 = .slice Ap (P ++ List.replicate j x.price).length cp ∧ ρ' 5 = .slice Au (P ++ List.replicate j x.price).length cu ∧
   St h0 h' (ownA zEnc 1 2 (.slice Ap (P ++ List.replicate j x.price).length cp) (P ++ List.replicate j x.price) :: ownA Unt.enc 4 72 (.slice Au (P ++ List.replicate j x.price).length cu) (U ++ List.replicate j ⟨num, x.sku, x.cat, x.price⟩) :: cellA q x.enc 93 :: cellA g o.enc 90 :: l)) (fun ρ' _ => x.count.toNat - (iv (ρ' 24)).toNat) ?_ ?_
  ·refine Wh e1 e2 e16 e17 e18 e5 e6 ?_
   exact ⟨0, rfl, by omega, Ap, Au, cp, cu, by simp, by simp, by simp only [List.replicate_zero, l_am]; exact S.p2.p2⟩
  have p18 := e18
  clear S F e1 e2 e16 e17 e18 e6 e5 hr1
  rintro ρ' h J' hJ' ⟨e1, e2, e16, e17, e18, e8, e23, j, e24, hj, Ap, Au, cp, cu, e6, e5, S⟩
  refine Wc e23 e24 ?_
  refine cD (fun hlt2 => ?_) (fun hlt2 => ?_)
  ·have hjl : j < x.count.toNat := by omega
   have hl1 := hadd (j + 1) (by omega)
   have hl0 := hadd j (by omega)
   have er1 : P ++ List.replicate j x.price ++ [x.price] = P ++ List.replicate (j + 1) x.price := by rw [l_q, ← List.replicate_succ']
   have er2 : U ++ List.replicate j (⟨num, x.sku, x.cat, x.price⟩ : Unt) ++ [⟨num, x.sku, x.cat, x.price⟩] = U ++ List.replicate (j + 1) ⟨num, x.sku, x.cat, x.price⟩ := by rw [l_q, ← List.replicate_succ']
   have hll : (U ++ List.replicate j (⟨num, x.sku, x.cat, x.price⟩ : Unt)).length = (P ++ List.replicate j x.price).length := by rw [l_m, l_m, l_ah, l_ah]; omega
   have hll2 : (P ++ List.replicate j x.price).length + 1 = (P ++ List.replicate (j + 1) x.price).length := by rw [l_m, l_m, l_ah, l_ah]; omega
   ((try clear F); have F := S.fx)
   refine Wf e1 e8 F @Lin.enc.eq_1 e5 ?_
   (revert S; (try clear F); refine AL fun r1 h S F => ?_)
   refine Wa ?_
   refine tA1 (bytes := 32) (x := (⟨num, x.sku, x.cat, x.price⟩ : Unt)) Unt.enc_len (by omega) Unt.enc_plain rfl rfl S.p2.p1 (by omega) (by omega) ?_
   clear S F
   intro v h S
   rw [er2] at S
   obtain ⟨Au, cu, rfl⟩ := S.sl
   rw [show (U ++ List.replicate (j + 1) (⟨num, x.sku, x.cat, x.price⟩ : Unt)).length = (P ++ List.replicate (j + 1) x.price).length by rw [← hll2, ← hll, ← er2, l_m]; rfl] at S ⊢
   ((try clear F); have F := S.fx)
   refine We e6 e8 F @Lin.enc.eq_1 ?_
   (revert S; (try clear F); refine AL fun r2 h S F => ?_)
   refine Wa ?_
   refine tA1 (bytes := 8) (x := x.price) zEl (by omega) zEp rfl rfl S.p2.p1 (by omega) (by omega) ?_
   clear S F
   intro v h S
   rw [er1] at S
   obtain ⟨Ap, cp, rfl⟩ := S.sl
   refine Wb e24 ?_
   refine hJ' _ _ ?_ ?_
   ·refine Wh e1 e2 e16 e17 e18 e8 e23 ?_
    exact ⟨j + 1, rfl, by omega, Ap, Au, cp, cu, rfl, rfl, S⟩
   ·refine Wb e24 ?_
    omega
  ·obtain rfl : j = x.count.toNat := by omega
   refine Wb e18 ?_
   refine hJ _ _ ?_ ?_
   ·refine Wf e1 e2 e16 e17 hA ?_
    exact ⟨i + 1, rfl, by omega, Ap, Au, cp, cu, by rw [e6, hs2]; rfl, by rw [e5, hs2]; rfl, by rw [hs1, hs2]; exact S.p2.tl⟩
   ·refine Wb p18 ?_
    omega
 obtain rfl : i = o.ls.length := by omega
 rw [l_aj] at S e6 e5
 clear hJ
 ((try clear F); have F := S.fx)
 have hpl := (len_sum o.ls ok.count).1
 have hul := ((len_sum o.ls ok.count).2.2 num).1
 refine Wf e2 F @Odr.enc.eq_1 @zerosL.eq_1 @zerosL.eq_2 ?_
 (revert S; (try clear F); refine AL fun t h S F => ?_)
 obtain ⟨n, hn⟩ : ∃ n, (priceL o.ls).length = n := ⟨_, rfl⟩
 rw [hn] at e5 e6 S hul
 have hnn : n ≤ 200 ∧ 0 < n := by
  have := all_bound hlk
  omega
 refine Wa ?_
 refine lI (fun ρ' h' => ρ' 5 = .slice Au n cu ∧ ρ' 6 = .slice Ap n cp ∧ ρ' 53 = .slice (some ⟨t, 0, none⟩) 3 3 ∧ ρ' 54 = .int .i64 3 ∧ ∃ r : Nat, ρ' 55 = .int .i64 r ∧ r ≤ 3 ∧
  St h0 h' (cellA t [.int .i64 o.disc, .int .i64 (-1), .int .i64 o.tax, .int .i64 1, .int .i64 o.ship, .int .i64 1] 150 :: ownA zEnc 1 2 (.slice Ap n cp) (priceL o.ls) :: ownA Unt.enc 4 72 (.slice Au n cu) (unitsR o num r) :: cellA g o.enc 90 :: l)) (fun ρ' _ => 3 - (iv (ρ' 55)).toNat) ?_ ?_
 ·refine Wc e5 e6 ?_
  exact ⟨0, rfl, by omega, S⟩
 clear S F e1 e2 e16 e17 e18 e6 e5
 rintro ρ h J hJ ⟨e5, e6, e53, e54, r, e55, hr, S⟩
 refine Wc e54 e55 ?_
 refine cD (fun hlt => ?_) (fun hlt => ?_)
 case refine_2 =>
  obtain rfl : r = 3 := by omega
  refine Wb e5 ?_
  exact hK _ _ (S.p2.d1.d1.d1)
 have hr3 : r < 3 := by omega
 have hps : rdN h t (r * 2) 2 = some [.int .i64 (psum o r), .int .i64 (psgn r)] := by
  rw [st_rdN S (by simp only [l_f, l_g]; omega)]
  match r, hr3 with
  | 0, _ => rfl
  | 1, _ => rfl
  | 2, _ => rfl
 have hop := ok.okp r
 have hask := ok.ask hop
 obtain ⟨hs1, hs2, hs3⟩ := ok.sh r
 have hrl := unitsR_len ok num r
 have hrb := unitsR_bound ok num r
 have hsucc : unitsR o num (r + 1) = addS (psgn r) (shF (psum o r).toNat (priceL o.ls)) (unitsR o num r) := rfl
 have hsg := psgn_cases r
 have hpi := shF_is (psum o r).toNat (priceL o.ls)
 rw [hn] at hs1 hrl
 generalize shF (psum o r).toNat (priceL o.ls) = sh at *
 generalize unitsR o num r = U at *
 generalize psum o r = su at *
 generalize psgn r = sg at *
 refine Wd e53 e55 hps ?_
 (revert S; (try clear F); refine AL fun p h S F => ?_)
 refine Wb F ?_
 (revert S; (try clear F); refine ST fun h S F => ?_)
 refine Wc F e6 ?_
 have hsh := SharesA_ok (c := cp) (A := Ap) su (priceL o.ls) (fun h' S => S.p2.arr zEl) (by omega) S
 rw [hn] at hsh
 refine cI hsh ?_
 clear S F hsh hps
 rintro _ h (⟨hx, _⟩ | ⟨_, s, out, rfl, hI, hlo, S⟩)
 ·exact (hx hask).elim
 have := hI.unique hpi
 subst this
 clear hI hpi
 obtain ⟨As, cs, rfl⟩ := S.sl
 rw [hs1] at S ⊢
 obtain ⟨bs, rfl⟩ := S.ownAt (by omega)
 obtain ⟨bu, rfl⟩ := S.p4.ownAt (by omega)
 have hXl : (addS sg out U).length = U.length := addS_len (by omega)
 refine Wa ?_
 refine lI (fun ρ' h' => ρ' 5 = .slice (some ⟨bu, 0, none⟩) n cu ∧ ρ' 6 = ρ 6 ∧ ρ' 53 = ρ 53 ∧ ρ' 54 = ρ 54 ∧ ρ' 55 = ρ 55 ∧ ρ' 10 = .pointer (some ⟨p, 0, none⟩) ∧ ρ' 66 = .slice (some ⟨bs, 0, none⟩) n cs ∧ ρ' 67 = .int .i64 n ∧ ∃ k : Nat, ρ' 68 = .int .i64 k ∧ k ≤ n ∧
  St h0 h' (ownA Unt.enc 4 72 (.slice (some ⟨bu, 0, none⟩) n cu) ((addS sg out U).take k ++ U.drop k) :: ownA zEnc 1 2 (.slice (some ⟨bs, 0, none⟩) n cs) out :: cellA p [.int .i64 su, .int .i64 sg] 150 ::
   cellA t [.int .i64 o.disc, .int .i64 (-1), .int .i64 o.tax, .int .i64 1, .int .i64 o.ship, .int .i64 1] 150 :: ownA zEnc 1 2 (.slice Ap n cp) (priceL o.ls) :: cellA g o.enc 90 :: l)) (fun ρ' _ => n - (iv (ρ' 68)).toNat) ?_ ?_
 ·refine Wb e5 ?_
  refine ⟨0, rfl, by omega, ?_⟩
  have := S.p4
  simpa using this
 have p5 := e5
 have p6 := e6
 have p53 := e53
 have p54 := e54
 have p55 := e55
 clear S e5 e6 e53 e54 e55
 rintro ρ' h J' hJ' ⟨e5, e6, e53, e54, e55, e10, e66, e67, k, e68, hk, S⟩
 refine Wc e67 e68 ?_
 refine cD (fun hlt2 => ?_) (fun hlt2 => ?_)
 ·have hkn : k < n := by omega
  have hml := mid_len (addS sg out U) U hXl k
  have hrs := own_rd S.p1 (i := k) (l_r (by omega))
  have hru := own_part Unt.enc_len S (i := k) (j := 3) (by omega) (by omega)
  rw [mid_get _ _ hXl (by omega)] at hru
  have hrg := st_rd1 (off := 1) S.p2
  simp only [l_p, l_o] at hrg
  have hsb := hs3 _ (l_v (l := out) (n := k) (by omega))
  have hub := hrb _ (l_v (l := U) (n := k) (by omega))
  have hXk : (addS sg out U)[k]'(by omega) = { (U[k]'(by omega)) with share := (U[k]'(by omega)).share + sg * out[k]'(by omega) } := by simp only [addS, List.getElem_zipWith]
  have hset := set_mid (addS sg out U) U hXl (k := k) (by omega)
  rw [hXk] at hset
  have hmg := mid_get (addS sg out U) U hXl (k := k) (by omega)
  generalize out[k]'(by omega) = s at *
  generalize hu : U[k]'(by omega) = u at *
  simp only [Unt.enc, l_p, l_o] at hru
  have w1 : IntKind.i64.wrap (sg * s) = sg * s := by
   rcases hsg with rfl | rfl <;> exact wrap_i64 (by omega) (by omega)
  have w2 : IntKind.i64.wrap (u.share + sg * s) = u.share + sg * s := by
   rcases hsg with rfl | rfl <;> exact wrap_i64 (by omega) (by omega)
  refine Wd e66 e68 hrs ?_
  refine dE ?_
  refine Wi e5 e68 e10 hru hrg hrs w1 w2 ?_
  refine st_setPart Unt.enc_len (i := k) (j := 3) (x := { u with share := u.share + sg * s }) S (by omega) (by omega) (Nat.le_refl 4) rfl rfl (by rw [hmg]; rfl) ?_
  clear S hru hrg hrs
  intro h S
  rw [hset] at S
  refine Wb e68 ?_
  refine hJ' _ _ ?_ ?_
  ·refine Wi e5 e6 e53 e54 e55 e10 e66 e67 ?_
   exact ⟨k + 1, rfl, by omega, S⟩
  ·refine Wb e68 ?_
   omega
 ·obtain rfl : k = n := by omega
  rw [List.take_of_length_le (by omega), List.drop_of_length_le (by omega), l_am, ← hsucc] at S
  refine Wc e55 p55 ?_
  refine hJ _ _ ?_ ?_
  ·refine Wi e5 p5 e6 p6 e53 p53 e54 p54 ?_
   exact ⟨r + 1, rfl, by omega, S.d1.d1.p2.p2⟩
  ·refine Wb p55 ?_
   omega
end
end
def rdV (n : Nat) (bs : List UInt8) (bad : Bool) : Int := if bad = true ∨ bs.length < n then 0 else num (bs.take n)
def rdB (n : Nat) (bs : List UInt8) (bad : Bool) : List UInt8 := if bad = true ∨ bs.length < n then [] else bs.drop n
def rdX (n : Nat) (bs : List UInt8) (bad : Bool) : Bool := bad || decide (bs.length < n)
theorem rdV_nn (n : Nat) (bs : List UInt8) (bad : Bool) : 0 ≤ rdV n bs bad ∧ rdV n bs bad < 256 ^ n := by
 unfold rdV
 split
 ·exact ⟨Int.le_refl _, Int.pow_pos (by decide)⟩
 ·rename_i hb
  have h1 := num_lt (bs.take n)
  have h2 : (bs.take n).length = n := by simp only [not_or] at hb; simp; omega
  rw [h2] at h1
  exact ⟨num_nonneg _, h1⟩
def stp (n : Nat) (q : List UInt8 × Bool) : List UInt8 × Bool := (rdB n q.1 q.2, rdX n q.1 q.2)
def vl (n : Nat) (q : List UInt8 × Bool) : Int := rdV n q.1 q.2
def q1 (q : List UInt8 × Bool) := stp 2 q
def q2 (q : List UInt8 × Bool) := stp 1 (q1 q)
def q3 (q : List UInt8 × Bool) := stp 2 (q2 q)
def q4 (q : List UInt8 × Bool) := stp 2 (q3 q)
def q5 (q : List UInt8 × Bool) := stp 2 (q4 q)
def q6 (q : List UInt8 × Bool) := stp 2 (q5 q)
def q7 (q : List UInt8 × Bool) := stp 2 (q6 q)
def q8 (q : List UInt8 × Bool) := stp 1 (q7 q)
def q9 (q : List UInt8 × Bool) := stp 2 (q8 q)
def q10 (q : List UInt8 × Bool) := stp 1 (q9 q)
def Pol.fits (p : Pol) : Prop := (0 ≤ p.w ∧ p.w < 65536) ∧ (0 ≤ p.f0 ∧ p.f0 < 65536) ∧ (0 ≤ p.f1 ∧ p.f1 < 65536) ∧ (0 ≤ p.f2 ∧ p.f2 < 65536) ∧ (0 ≤ p.f3 ∧ p.f3 < 65536) ∧ (0 ≤ p.s0 ∧ p.s0 < 65536) ∧ (0 ≤ p.t0 ∧ p.t0 < 256) ∧ (0 ≤ p.s1 ∧ p.s1 < 65536) ∧ (0 ≤ p.t1 ∧ p.t1 < 256) ∧ (0 ≤ p.s2 ∧ p.s2 < 65536) ∧ (0 ≤ p.t2 ∧ p.t2 < 256) ∧ (0 ≤ p.s3 ∧ p.s3 < 65536) ∧ (0 ≤ p.t3 ∧ p.t3 < 256)
theorem le_num_n (l : List UInt8) (n : Nat) (h : l.length = n) : le n (num l) = l := by subst h; exact le_num l
theorem arr_none {α : Type} {enc : α → List Value} {sz : Nat} {h : Heap} {A : Option Addr} {xs : List α} (ha : Arr enc sz h A xs) : A = none → xs = [] := by
 rintro rfl
 cases xs with
 | nil => rfl
 | cons x xs => obtain ⟨b, off, hA, _⟩ := ha 0 (by simp); cases hA
section
set_option maxHeartbeats 4000000
structure KU where
 place : Int
 sku : Int
 recv : Bool
 grad : Bool
def KU.enc (x : KU) : List Value := [.int .i64 x.place, .int .i64 x.sku, .bool x.recv, .bool x.grad]
theorem KU.enc_len (x : KU) : x.enc.length = 4 := rfl
theorem KU.enc_plain (x : KU) : pC x.enc = true := rfl
def stockA (k : Nat) (K : List KU) : HP := exA fun s => starA (cellA k [s] 108) (ownA KU.enc 4 110 s K)
def placeK (K : List KU) (n : Int) : Int := if 0 ≤ n then ((K[n.toNat]?).map KU.place).getD (-1) else -1
def stkOf (sk at_ : List Int) : List KU := List.zipWith (fun s p => ⟨p, s, false, false⟩) sk at_
def okAt (at_ : List Int) : Prop := ∀ p ∈ at_, 0 ≤ p ∧ p < 9
section
variable {h0 h : Heap} {l : List HP} {k : Nat} {K : List KU}
theorem St.stk : St h0 h (stockA k K :: l) ↔ ∃ s, St h0 h (cellA k [s] 108 :: ownA KU.enc 4 110 s K :: l) := by
 rw [stockA, St.ex]
 exact exists_congr fun s => St.star
theorem has_ok (n : Int) (S : St h0 h (stockA k K :: l)) : CallsH Tryz.prog 40 [.pointer (some ⟨k, 0, none⟩), .int .i64 n] h fun v h' => v = .bool (dcd (0 ≤ n ∧ n < K.length)) ∧ h' = h := by
 obtain ⟨s, S⟩ := St.stk.1 S
 obtain ⟨A, c, rfl⟩ := S.p1.sl
 ((try clear F); have F := S.fx)
 by_cases h1 : 0 ≤ n
 ·by_cases h2 : n < K.length
  ·refine EN i40.eq_1 fun K hK => ?_
   refine Wd F h1 h2 ?_
   exact hK _ _ ⟨by rw [dT ⟨h1, h2⟩], rfl⟩
  ·refine EN i40.eq_1 fun K hK => ?_
   refine Wd F h1 h2 ?_
   exact hK _ _ ⟨by rw [dF fun h => h2 h.2], rfl⟩
 ·refine EN i40.eq_1 fun K hK => ?_
  refine Wc F h1 ?_
  exact hK _ _ ⟨by rw [dF fun h => h1 h.1], rfl⟩
theorem PlaceK_ok (n : Int) (S : St h0 h (stockA k K :: l)) : CallsH Tryz.prog 21 [.pointer (some ⟨k, 0, none⟩), .int .i64 n] h fun v h' => v = .int .i64 (placeK K n) ∧ h' = h := by
 by_cases h1 : 0 ≤ n ∧ n < K.length
 ·obtain ⟨i, rfl⟩ := l_u h1.1
  have hi : i < K.length := by omega
  refine EN i21.eq_1 fun K hK => Wa ?_
  refine cI (has_ok _ S) ?_
  rintro _ _ ⟨rfl, rfl⟩
  rw [dT h1]
  obtain ⟨s, S⟩ := St.stk.1 S
  obtain ⟨A, c, rfl⟩ := S.p1.sl
  obtain ⟨b, rfl⟩ := S.p1.ownAt (by omega)
  have hp := own_part KU.enc_len S.p1 (i := i) (j := 0) hi (by omega)
  simp only [KU.enc, l_o, Nat.add_zero] at hp
  ((try clear F); have F := S.fx)
  refine Wc F hp ?_
  refine hK _ _ ⟨?_, rfl⟩
  rw [placeK, if_pos h1.1, l_ap, l_r hi]
  rfl
 ·refine EN i21.eq_1 fun K hK => Wa ?_
  refine cI (has_ok _ S) ?_
  rintro _ _ ⟨rfl, rfl⟩
  rw [dF h1]
  refine Wa ?_
  refine hK _ _ ⟨?_, rfl⟩
  rw [placeK]
  split
  ·rw [List.getElem?_eq_none (by omega)]; rfl
  ·rfl
theorem CloneKU_ok {A : Option Addr} {n c : Nat} {xs : List KU} (S : St h0 h l) (ha : Arr KU.enc 4 h A xs) (hn : n = xs.length) (hl : xs.length < 1000000000) :
  CallsH Tryz.prog 57 [.slice A n c] h fun v h' => St h0 h' (ownA KU.enc 4 110 v xs :: l) :=
 (clone_ok (T := 110) (sz := 4) (bytes := 24) i57.2 KU.enc_len (by omega) KU.enc_plain rfl ha hn (arr_none ha) (by omega) (by omega)).mono fun v h' ⟨ho, hf, _⟩ => S.ownNew hf ho
theorem CloneK_ok (S : St h0 h (stockA k K :: l)) (hl : K.length < 1000000) : CallsH Tryz.prog 32 [.pointer (some ⟨k, 0, none⟩)] h fun v h' => ∃ p, v = .pointer (some ⟨p, 0, none⟩) ∧ St h0 h' (stockA p K :: stockA k K :: l) := by
 obtain ⟨s, S⟩ := St.stk.1 S
 obtain ⟨A, c, rfl⟩ := S.p1.sl
 ((try clear F); have F := S.fx)
 refine EN i32.eq_1 fun K hK => ?_
 refine Wb F ?_
 refine cI (CloneKU_ok S (S.p1.arr KU.enc_len) rfl (by omega)) ?_
 clear S F
 intro v h S
 obtain ⟨B, d, rfl⟩ := S.sl
 refine Wa ?_
 (revert S; (try clear F); refine AL fun p h S F => ?_)
 refine Wa ?_
 exact hK _ _ ⟨p, rfl, St.stk.2 ⟨_, (St.stk.2 ⟨_, S.p2.p3.p1⟩).p1.p2.p1⟩⟩
theorem NewK_ok {A B : Option Addr} {c d : Nat} {sk at_ : List Int} (S : St h0 h l) (ha : ∀ h', St h0 h' l → Arr zEnc 1 h' A sk) (hb : ∀ h', St h0 h' l → Arr zEnc 1 h' B at_) (l1 : sk.length < 1000000) (l2 : at_.length < 1000000) :
  CallsH Tryz.prog 26 [.slice A sk.length c, .slice B at_.length d] h fun v h' => (¬ (sk.length = at_.length ∧ sk.length ≤ 200 ∧ okAt at_) ∧ v = .tuple #[.pointer none, .int .i64 1] ∧ St h0 h' l) ∨
   ((sk.length = at_.length ∧ sk.length ≤ 200 ∧ okAt at_) ∧ ∃ k, v = .tuple #[.pointer (some ⟨k, 0, none⟩), .int .i64 0] ∧ St h0 h' (stockA k (stkOf sk at_) :: l)) := by
 by_cases h1 : (sk.length : Int) = at_.length
 case neg =>
  refine EN i26.eq_1 fun K hK => ?_
  refine Wa ?_
  exact hK _ _ (.inl ⟨fun h => h1 (by omega), rfl, S⟩)
 by_cases h2 : 200 < (sk.length : Int)
 ·refine EN i26.eq_1 fun K hK => ?_
  refine Wa ?_
  exact hK _ _ (.inl ⟨fun h => by omega, rfl, S⟩)
 refine EN i26.eq_1 fun K hK => ?_
 refine Wa ?_
 (revert S; (try clear F); refine AL fun k h S F => ?_)
 have S : St h0 h (ownA KU.enc 4 110 (.slice none 0 0) [] :: _) := S.nilS
 refine Wa ?_
 refine lI (fun ρ h' => ρ 0 = .slice A sk.length c ∧ ρ 6 = .pointer (some ⟨k, 0, none⟩) ∧ ρ 21 = .slice B at_.length d ∧ ρ 22 = .int .i64 at_.length ∧ ∃ i : Nat, ρ 23 = .int .i64 i ∧ i ≤ at_.length ∧ okAt (at_.take i) ∧ ∃ (E : Option Addr) (e : Nat),
  St h0 h' (ownA KU.enc 4 110 (.slice E (stkOf (sk.take i) (at_.take i)).length e) (stkOf (sk.take i) (at_.take i)) :: cellA k [.slice E (stkOf (sk.take i) (at_.take i)).length e] 108 :: l)) (fun ρ _ => at_.length - (iv (ρ 23)).toNat) ?_ ?_
 ·refine Wa ?_
  exact ⟨0, rfl, by omega, by simp [okAt], none, 0, S⟩
 clear S F
 rintro ρ h J hJ ⟨e0, e6, e21, e22, i, e23, hi, hok, E, e, S⟩
 refine Wc e22 e23 ?_
 refine cD (fun hlt => ?_) (fun hlt => ?_)
 ·have hil : i < at_.length := by omega
  have hil2 : i < sk.length := by omega
  obtain ⟨b1, o1, rfl, q1⟩ := (hb _ S.tl.tl).at hil
  obtain ⟨b2, o2, rfl, q2⟩ := (ha _ S.tl.tl).at hil2
  have q1 := rP0 q1 (by omega)
  have q2 := rP0 q2 (by omega)
  simp only [zEnc, l_o] at q1 q2
  have hmem := l_v hil
  have hll : (stkOf (sk.take i) (at_.take i)).length = i := by
   rw [stkOf, List.length_zipWith, l_ad, l_ad]; omega
  have hs1 : stkOf (sk.take (i + 1)) (at_.take (i + 1)) = stkOf (sk.take i) (at_.take i) ++ [⟨at_[i], sk[i], false, false⟩] := by
   rw [l_t hil, l_t hil2, stkOf, List.zipWith_append (by rw [l_ad, l_ad]; omega)]
   rfl
  have htk : (0 ≤ at_[i] ∧ at_[i] < 9) → okAt (at_.take (i + 1)) := fun hx p hp => by
   rw [l_t hil] at hp
   rcases List.mem_append.1 hp with hp | hp
   ·exact hok p hp
   ·rw [l_aa] at hp; rw [hp]; exact hx
  have hbad : ¬ (0 ≤ at_[i] ∧ at_[i] < 9) → ¬ (sk.length = at_.length ∧ sk.length ≤ 200 ∧ okAt at_) := fun hn h => hn (h.2.2 _ hmem)
  have hq2 : ∀ {h' : Heap} {L : List HP}, St h0 h' (L ++ l) → rd1 h' (.pointer (some ⟨b2, o2 + i * 1, none⟩)) = some (.int .i64 sk[i]) := fun S' => by
   obtain ⟨b3, o3, hA, q3⟩ := (ha _ S'.dropL).at hil2
   cases hA
   have q3 := rP0 q3 (by omega)
   simpa only [zEnc, l_o] using q3
  generalize at_[i] = x at *
  generalize sk[i] = y at *
  by_cases c1 : x < 0
  ·refine We e21 e23 q1 c1 ?_
   exact hK _ _ (.inl ⟨hbad (by omega), rfl, S.tl.tl⟩)
  by_cases c2 : 9 ≤ x
  ·refine Wf e21 e23 q1 c1 c2 ?_
   exact hK _ _ (.inl ⟨hbad (by omega), rfl, S.tl.tl⟩)
  have hg0 := st_rd1 (off := 0) S.p1
  simp only [l_o] at hg0
  generalize stkOf (sk.take i) (at_.take i) = W at *
  have hI : (fun h' => rd1 h' (.pointer (some ⟨k, 0, none⟩)) = some (.slice E W.length e) ∧ rd1 h' (.pointer (some ⟨b2, o2 + i * 1, none⟩)) = some (.int .i64 y)) h := ⟨hg0, hq2 (L := [_, _]) S⟩
  have rx : ∀ K t, readT (fun h' => rd1 h' (.pointer (some ⟨k, 0, none⟩)) = some (.slice E W.length e) ∧ rd1 h' (.pointer (some ⟨b2, o2 + i * 1, none⟩)) = some (.int .i64 y)) (fun h' => rd1 h' (.pointer (some ⟨k, 0, none⟩))) K t = K (.slice E W.length e) := fun K t => rI (fun h' hh => hh.1) h hI
  have ry : ∀ K t, readT (fun h' => rd1 h' (.pointer (some ⟨k, 0, none⟩)) = some (.slice E W.length e) ∧ rd1 h' (.pointer (some ⟨b2, o2 + i * 1, none⟩)) = some (.int .i64 y)) (fun h' => rd1 h' (.pointer (some ⟨b2, o2 + i * 1, none⟩))) K t = K (.int .i64 y) := fun K t => rI (fun h' hh => hh.2) h hI
  simp only [Nat.mul_one] at hI rx ry hq2
  refine Wf e21 e23 q1 c1 c2 ?_
  refine dI (fun h' => rd1 h' (.pointer (some ⟨k, 0, none⟩)) = some (.slice E W.length e) ∧ rd1 h' (.pointer (some ⟨b2, o2 + i, none⟩)) = some (.int .i64 y)) hI ?_
  refine Wf e0 e6 rx ry @Nat.mul_one ?_
  (revert S; (try clear F); refine AL fun q h S F => ?_)
  refine ⟨⟨st_rd1 (off := 0) S.p2, hq2 (L := [_, _, _]) S⟩, ?_⟩
  refine Wa ?_
  refine tA1 (bytes := 24) (x := (⟨x, y, false, false⟩ : KU)) KU.enc_len (by omega) KU.enc_plain rfl rfl S (by omega) (by omega) ?_
  clear S F
  intro v h S
  rw [← hs1] at S
  obtain ⟨E', e', rfl⟩ := S.sl
  refine Wa ?_
  refine tS S.p1 (by rfl) (by rfl) (l_a rfl) ?_
  clear S
  intro h S
  replace S := S.nm
  refine Wb e23 ?_
  refine hJ _ _ ?_ ?_
  ·refine We e0 e6 e21 e22 ?_
   exact ⟨i + 1, rfl, by omega, htk (by omega), E', e', S.p1⟩
  ·refine Wb e23 ?_
   omega
 obtain rfl : i = at_.length := by omega
 have hx : sk.take at_.length = sk := by rw [← (show sk.length = at_.length by omega), l_aj]
 rw [hx, l_aj] at S
 rw [l_aj] at hok
 refine Wb e6 ?_
 exact hK _ _ (.inr ⟨⟨by omega, by omega, hok⟩, k, rfl, St.stk.2 ⟨_, S.p1⟩⟩)
end
end
section
set_option maxHeartbeats 16000000
end
end Go.Proofs.YtcgbhcgfdcfmaaaGreat.MX
