import Derived.Test.YtijnkebgciaieaaGreatK21
import Derived.Test.YtijnkebgciaieaaGreatK16
import Derived.Test.YtijnkebgciaieaaGreatK14
namespace Go.Proofs.YtijnkebgciaieaaGreat.MX
open Go Go.Proofs
set_option linter.unusedSimpArgs false
set_option linter.unusedVariables false
section
set_option maxHeartbeats 8000000
def BestOf (Kf : Int → Nat) (T : List Int) (i : Nat) (B : Int) : Prop :=
 (B = -1 ∧ ∀ k, k < i → (k : Int) ∈ T) ∨ ∃ b : Nat, B = b ∧ b < i ∧ (b : Int) ∉ T ∧ ∀ k, k < i → (k : Int) ∉ T → k = b ∨ Rk Kf b k
theorem BestOf.zero (Kf : Int → Nat) (T : List Int) : BestOf Kf T 0 (-1) := .inl ⟨rfl, fun k hk => by omega⟩
theorem BestOf.skip {Kf : Int → Nat} {T : List Int} {i : Nat} {B : Int} (h : BestOf Kf T i B) (hi : (i : Int) ∈ T) : BestOf Kf T (i + 1) B := by
 rcases h with ⟨rfl, h⟩ | ⟨b, rfl, hb, hn, h⟩
 ·refine .inl ⟨rfl, fun k hk => ?_⟩
  by_cases e : k = i
  ·subst e; exact hi
  ·exact h k (by omega)
 ·refine .inr ⟨b, rfl, by omega, hn, fun k hk hkn => ?_⟩
  by_cases e : k = i
  ·subst e; exact (hkn hi).elim
  ·exact h k (by omega) hkn
theorem BestOf.first {Kf : Int → Nat} {T : List Int} {i : Nat} (h : BestOf Kf T i (-1)) (hi : (i : Int) ∉ T) : BestOf Kf T (i + 1) i := by
 rcases h with ⟨_, h⟩ | ⟨b, hb, _⟩
 ·refine .inr ⟨i, rfl, by omega, hi, fun k hk hkn => ?_⟩
  by_cases e : k = i
  ·exact .inl e
  ·exact (hkn (h k (by omega))).elim
 ·omega
theorem BestOf.more {Kf : Int → Nat} {T : List Int} {i b : Nat} (h : BestOf Kf T i (b : Int)) (hi : (i : Int) ∉ T) (hk : Kf b < Kf i) : BestOf Kf T (i + 1) i := by
 rcases h with ⟨hb, _⟩ | ⟨b', hb, hb1, hb2, h⟩
 ·omega
 ·obtain rfl : b = b' := by omega
  refine .inr ⟨i, rfl, by omega, hi, fun k hk' hkn => ?_⟩
  by_cases e : k = i
  ·exact .inl e
  ·refine .inr (.inl ?_)
   rcases h k (by omega) hkn with rfl | h
   ·exact hk
   ·unfold Rk at h; omega
section
variable {h0 h : Heap} {l : List HP}
end
end
section
set_option maxHeartbeats 8000000
structure D64 where
 n : Int
def D64.enc (x : D64) : List Value := [.int .i64 x.n]
def D64.ok (x : D64) : Prop := -9223372036854775808 ≤ x.n ∧ x.n < 9223372036854775808
section
variable {h0 h : Heap} {l : List HP}
end
end
section
set_option maxHeartbeats 8000000
theorem take_sum_le {l : List Int} (h : ∀ x ∈ l, 0 ≤ x) (i : Nat) : 0 ≤ (l.take i).sum ∧ (l.take i).sum ≤ l.sum := by
 have hn : ∀ {m : List Int}, (∀ x ∈ m, 0 ≤ x) → 0 ≤ m.sum := by
  intro m hm
  induction m with
  | nil => simp
  | cons x m ih =>
   rw [List.sum_cons]
   have := hm x (by simp)
   have := ih fun y hy => hm y (by simp [hy])
   omega
 have h1 := hn fun x hx => h x (List.mem_of_mem_take (i := i) hx)
 have h2 := hn fun x hx => h x (List.mem_of_mem_drop (i := i) hx)
 refine ⟨h1, ?_⟩
 conv => rhs; rw [← List.take_append_drop i l, List.sum_append]
 omega
theorem shares_sums {k : Nat} {ws out : List Int} (hask : askS k ws = 0) (hI : IsShares k (effW ws).sum (effW ws) out) :
  out.length = ws.length ∧ out.sum = k ∧ (∀ x ∈ out, 0 ≤ x) ∧
   (0 < ws.sum → ∀ i (hi : i < ws.length), ∃ w : Nat, ws[i] = (w : Int) ∧ w ≤ ws.sum.toNat ∧ (out.getD i 0 = ((k * w / ws.sum.toNat : Nat) : Int) ∨ out.getD i 0 = ((k * w / ws.sum.toNat : Nat) : Int) + 1)) ∧
   ∀ i m (hi : i < ws.length) (hm : m < i), ws[m] = ws[i] → out.getD m 0 = out.getD i 0 ∨ out.getD m 0 = out.getD i 0 + 1 := by
 obtain ⟨hw0, hw1, hf, hs0, hs1, hs2, hs3⟩ := ask0 hask
 obtain ⟨hep, hem⟩ := effW_pos hask
 have hel := effW_len ws
 obtain ⟨l1, l2, l3, l4⟩ := hI.law hep rfl
 refine ⟨by omega, l2, ?_, ?_, ?_⟩
 ·intro x hx
  obtain ⟨i, hi, rfl⟩ := l_af hx
  have e : out.getD i 0 = out[i] := by rw [l_s, l_r hi]; rfl
  have := l3 i (by omega)
  rw [e] at this
  rcases this with h | h
  ·rw [h]; exact Int.natCast_nonneg _
  ·rw [h]; exact Int.add_nonneg (Int.natCast_nonneg _) (by decide)
 ·intro hp i hi
  have hsum := sumI (ws.map Int.toNat)
  rw [toNat_back hf] at hsum
  have he : effW ws = ws.map Int.toNat := by unfold effW; rw [if_neg (by omega)]
  have hfi := hf _ (l_v hi)
  unfold fitW at hfi
  have h3 := l3 i (by omega)
  have hss : (effW ws).sum = ws.sum.toNat := by rw [he]; omega
  have hei : (effW ws)[i]'(by omega) = ws[i].toNat := by simp only [he, l_ae]
  have hle : (ws.map Int.toNat)[i]'(by rw [l_z]; exact hi) ≤ (ws.map Int.toNat).sum := le_sumN (l_v _)
  rw [l_ae] at hle
  rw [hei, hss] at h3
  exact ⟨ws[i].toNat, by omega, by omega, h3⟩
 ·intro i m hi hm hwm
  refine l4 i m (by omega) hm ?_
  by_cases hz : ws.sum = 0
  ·have he : effW ws = List.replicate ws.length 1 := by unfold effW; rw [if_pos hz]
   simp only [he, List.getElem_replicate]
  ·have he : effW ws = ws.map Int.toNat := by unfold effW; rw [if_neg hz]
   simp only [he, l_ae, hwm]
section
variable {h0 h : Heap} {l : List HP}
end
end
section
set_option maxHeartbeats 4000000
instance rkDec (Kf : Int → Nat) (x y : Int) : Decidable (Rk Kf x y) := by unfold Rk; exact inferInstance
theorem rkle_trans {Kf : Int → Nat} {a b c : Int} (h1 : Rk Kf a b ∨ a = b) (h2 : Rk Kf b c ∨ b = c) : Rk Kf a c ∨ a = c := by
 rcases h1 with h1 | rfl
 ·rcases h2 with h2 | rfl
  ·exact .inl (h1.trans h2)
  ·exact .inl h1
 ·exact h2
theorem rkle_total {Kf : Int → Nat} (a b : Int) : (Rk Kf a b ∨ a = b) ∨ (Rk Kf b a ∨ b = a) := by
 unfold Rk
 omega
theorem isShares_ex (sum all : Nat) (ws : List Nat) : ∃ out, IsShares sum all ws out := by
 have hs := List.pairwise_mergeSort (le := fun a b : Int => decide (Rk (fun i => (restW sum all ws).getD i.toNat 0) a b ∨ a = b)) (by
  intro a b c h1 h2
  exact decide_eq_true (rkle_trans (of_decide_eq_true h1) (of_decide_eq_true h2))) (by
  intro a b
  rw [Bool.or_eq_true, decide_eq_true_eq, decide_eq_true_eq]
  exact rkle_total a b) (natsI ws.length)
 have hp := List.mergeSort_perm (natsI ws.length) (fun a b : Int => decide (Rk (fun i => (restW sum all ws).getD i.toNat 0) a b ∨ a = b))
 have hn : ((natsI ws.length).mergeSort (fun a b : Int => decide (Rk (fun i => (restW sum all ws).getD i.toNat 0) a b ∨ a = b))).Nodup := hp.nodup_iff.2 (natsI_nodup _)
 refine ⟨_, _, hp, ?_, rfl⟩
 have := List.Pairwise.and hs hn
 refine this.imp ?_
 rintro a b ⟨h1, h2⟩
 simp only [decide_eq_true_eq] at h1
 exact h1.resolve_right h2
noncomputable def shF (sum : Nat) (ws : List Int) : List Int := Classical.choose (isShares_ex sum (effW ws).sum (effW ws))
theorem shF_is (sum : Nat) (ws : List Int) : IsShares sum (effW ws).sum (effW ws) (shF sum ws) := Classical.choose_spec (isShares_ex sum (effW ws).sum (effW ws))
structure Unt where
 ord : Int
 sku : Int
 cat : Int
 share : Int
def Unt.enc (u : Unt) : List Value := [.int .i64 u.ord, .int .i64 u.sku, .int .i64 u.cat, .int .i64 u.share]
theorem Unt.enc_len (x : Unt) : x.enc.length = 4 := rfl
theorem Unt.enc_plain (x : Unt) : pC x.enc = true := rfl
def linU (i : Int) (l : Lin) : List Unt := List.replicate l.count.toNat ⟨i, l.sku, l.cat, l.price⟩
def linP (l : Lin) : List Int := List.replicate l.count.toNat l.price
def expandU (i : Int) (ls : List Lin) : List Unt := ls.flatMap (linU i)
def priceL (ls : List Lin) : List Int := ls.flatMap linP
def psum (o : Odr) : Nat → Int | 0 => o.disc | 1 => o.tax | _ => o.ship
def psgn : Nat → Int | 0 => -1 | _ => 1
def addS (sg : Int) (sh : List Int) (U : List Unt) : List Unt := List.zipWith (fun u s => { u with share := u.share + sg * s }) U sh
noncomputable def unitsR (o : Odr) (i : Int) : Nat → List Unt
 | 0 => expandU i o.ls
 | r + 1 => addS (psgn r) (shF (psum o r).toNat (priceL o.ls)) (unitsR o i r)
noncomputable def unitsOf (o : Odr) (i : Int) : List Unt := unitsR o i 3
def supU (s : Sup) : List Unt := List.replicate s.count.toNat ⟨-1, s.sku, 0, s.price⟩
noncomputable def ordsU : Nat → List Odr → List Unt
 | _, [] => []
 | i, o :: os => unitsOf o i ++ ordsU (i + 1) os
noncomputable def unitsAll (C : Cfg) : List Unt := ordsU 0 C.os ++ C.ss.flatMap supU
theorem ordsU_app (a b : List Odr) : ∀ i, ordsU i (a ++ b) = ordsU i a ++ ordsU (i + a.length) b := by
 induction a with
 | nil => intro i; simp [ordsU]
 | cons o a ih => intro i; simp only [l_j, ordsU, ih, l_f, l_q]; rw [show i + 1 + a.length = i + (a.length + 1) by omega]
structure OkO (o : Odr) : Prop where
 ls : ∃ k : Int, ∀ l ∈ o.ls, okLine k l
 n0 : 1 ≤ o.ls.length
 n1 : o.ls.length ≤ 8
 cnt : cntOf o.ls ≤ 200
 disc : okPrice o.disc
 tax : okPrice o.tax
 ship : okPrice o.ship
 le : o.disc ≤ allOf o.ls
theorem len_sum (ls : List Lin) (h : ∀ l ∈ ls, 0 ≤ l.count) : ((priceL ls).length : Int) = cntOf ls ∧ (priceL ls).sum = allOf ls ∧ ∀ i, (expandU i ls).length = (priceL ls).length ∧ (expandU i ls).map Unt.share = priceL ls := by
 induction ls with
 | nil => exact ⟨rfl, rfl, fun _ => ⟨rfl, rfl⟩⟩
 | cons x ls ih =>
  obtain ⟨h1, h2, h3⟩ := ih fun l hl => h l (by simp [hl])
  have hx := h x (by simp)
  have hr : ∀ (n : Nat) (p : Int), (List.replicate n p).sum = p * n := by
   intro n p
   induction n with
   | zero => simp
   | succ n ih => rw [List.replicate_succ, List.sum_cons, ih, Int.natCast_succ, Int.mul_add, Int.mul_one, Int.add_comm]
  refine ⟨?_, ?_, fun i => ⟨?_, ?_⟩⟩
  ·simp only [priceL, List.flatMap_cons, l_m, linP, l_ah, cntOf, List.map_cons, List.sum_cons] at h1 ⊢
   omega
  ·simp only [priceL, List.flatMap_cons, List.sum_append, linP, allOf, List.map_cons, List.sum_cons] at h2 ⊢
   rw [h2, hr, Int.toNat_of_nonneg hx]
  ·have := (h3 i).1
   simp only [expandU, priceL, List.flatMap_cons, l_m, linU, linP, l_ah] at this ⊢
   omega
  ·have := (h3 i).2
   simp only [expandU, priceL, List.flatMap_cons, l_al, linU, linP, List.map_replicate] at this ⊢
   rw [this]
theorem OkO.count {o : Odr} (h : OkO o) : ∀ l ∈ o.ls, 0 ≤ l.count := fun l hl => by
 obtain ⟨k, hk⟩ := h.ls
 have := (hk l hl).1.2.2
 omega
theorem priceL_fit {o : Odr} (h : OkO o) : ∀ p ∈ priceL o.ls, okPrice p := by
 intro p hp
 obtain ⟨k, hk⟩ := h.ls
 simp only [priceL, List.mem_flatMap, linP, List.mem_replicate] at hp
 obtain ⟨l, hl, _, rfl⟩ := hp
 exact (hk l hl).1.2.1
theorem OkO.okp {o : Odr} (h : OkO o) (r : Nat) : okPrice (psum o r) := by
 match r with
 | 0 => exact h.disc
 | 1 => exact h.tax
 | _ + 2 => exact h.ship
theorem OkO.ask {o : Odr} (h : OkO o) {s : Int} (hs : okPrice s) : askS s (priceL o.ls) = 0 := by
 obtain ⟨h1, h2, _⟩ := len_sum o.ls h.count
 obtain ⟨k, hk⟩ := h.ls
 have hb := all_bound hk
 have := h.n0
 have := h.n1
 have := h.cnt
 obtain ⟨hs0, hs1⟩ := hs
 unfold askS
 rw [if_neg, if_neg (by omega)]
 rintro (h' | h' | h')
 ·omega
 ·omega
 ·exact h' fun p hp => by
   have := priceL_fit h p hp
   exact ⟨this.1, by have := this.2; omega⟩
theorem le_sumI : ∀ {l : List Int}, (∀ x ∈ l, 0 ≤ x) → ∀ x ∈ l, x ≤ l.sum
 | [], _, x, hx => by cases hx
 | y :: l, h, x, hx => by
  rw [List.sum_cons]
  have h1 := h y (by simp)
  have h2 := le_sumI (l := l) fun z hz => h z (by simp [hz])
  have h3 := take_sum_le (l := l) (fun z hz => h z (by simp [hz])) 0
  simp only [l_an, List.sum_nil] at h3
  rcases List.mem_cons.1 hx with rfl | hx
  ·omega
  ·have := h2 x hx; omega
theorem shF_len {s : Nat} {ws : List Int} (hask : askS s ws = 0) : (shF s ws).length = ws.length ∧ (shF s ws).sum = s ∧ (∀ x ∈ shF s ws, 0 ≤ x ∧ x ≤ (s : Int)) := by
 obtain ⟨h1, h2, h3, _⟩ := shares_sums hask (shF_is s ws)
 exact ⟨h1, h2, fun x hx => ⟨h3 x hx, by rw [← h2]; exact le_sumI h3 x hx⟩⟩
theorem OkO.sh {o : Odr} (h : OkO o) (r : Nat) : (shF (psum o r).toNat (priceL o.ls)).length = (priceL o.ls).length ∧ (shF (psum o r).toNat (priceL o.ls)).sum = psum o r ∧ (∀ x ∈ shF (psum o r).toNat (priceL o.ls), 0 ≤ x ∧ x ≤ 1073741824) := by
 have hp := h.okp r
 have ha := h.ask hp
 have hp1 := hp.1
 have hp2 := hp.2
 rw [← Int.toNat_of_nonneg hp1] at ha
 obtain ⟨h1, h2, h3⟩ := shF_len ha
 refine ⟨h1, by rw [h2]; omega, fun x hx => ⟨(h3 x hx).1, ?_⟩⟩
 have := (h3 x hx).2
 omega
theorem addS_len {sg : Int} {sh : List Int} {U : List Unt} (h : sh.length = U.length) : (addS sg sh U).length = U.length := by
 rw [addS, List.length_zipWith]; omega
theorem unitsR_len {o : Odr} (h : OkO o) (i : Int) : ∀ r, (unitsR o i r).length = (priceL o.ls).length
 | 0 => ((len_sum o.ls h.count).2.2 i).1
 | r + 1 => by
  have := unitsR_len h i r
  rw [unitsR, addS_len (by rw [(h.sh r).1, this]), this]
theorem psgn_cases (r : Nat) : psgn r = -1 ∨ psgn r = 1 := by
 match r with
 | 0 => exact .inl rfl
 | _ + 1 => exact .inr rfl
theorem unitsR_bound {o : Odr} (h : OkO o) (i : Int) : ∀ r, ∀ u ∈ unitsR o i r, -1073741824 * (r : Int) ≤ u.share ∧ u.share ≤ 1073741824 * ((r : Int) + 1)
 | 0, u, hu => by
  have h1 := ((len_sum o.ls h.count).2.2 i).2
  obtain ⟨p1, p2⟩ := priceL_fit h u.share (by rw [← h1]; exact l_ai hu)
  constructor <;> omega
 | r + 1, u, hu => by
  rw [unitsR, addS] at hu
  obtain ⟨k, hk, rfl⟩ := l_af hu
  rw [List.getElem_zipWith]
  rw [List.length_zipWith] at hk
  have h1 := unitsR_bound h i r _ (l_v (l := unitsR o i r) (n := k) (by omega))
  have h2 := (h.sh r).2.2 _ (l_v (l := shF (psum o r).toNat (priceL o.ls)) (n := k) (by omega))
  generalize (unitsR o i r)[k]'(by omega) = v at *
  generalize (shF (psum o r).toNat (priceL o.ls))[k]'(by omega) = x at *
  show -1073741824 * ((r + 1 : Nat) : Int) ≤ v.share + psgn r * x ∧ v.share + psgn r * x ≤ 1073741824 * (((r + 1 : Nat) : Int) + 1)
  rcases psgn_cases r with e | e
  ·rw [e]; omega
  ·rw [e]; omega
theorem set_mid {α : Type} (X U : List α) (hl : X.length = U.length) {k : Nat} (hk : k < U.length) : (X.take k ++ U.drop k).set k (X[k]'(by omega)) = X.take (k + 1) ++ U.drop (k + 1) := by
 rw [List.set_append_right _ _ (by rw [l_ad]; omega), l_ad, show k - min k X.length = 0 by omega, List.drop_eq_getElem_cons hk, l_h, l_t (by omega), l_q]
 rfl
theorem mid_len {α : Type} (X U : List α) (hl : X.length = U.length) (k : Nat) : (X.take k ++ U.drop k).length = U.length := by
 rw [l_m, l_ad, List.length_drop]; omega
theorem mid_get {α : Type} (X U : List α) (hl : X.length = U.length) {k : Nat} (hk : k < U.length) : (X.take k ++ U.drop k)[k]'(by rw [mid_len X U hl]; exact hk) = U[k] := by
 rw [List.getElem_append_right (by rw [l_ad]; omega)]
 simp [l_ad, show k - min k X.length = 0 by omega]
end
section
set_option maxHeartbeats 8000000
theorem expandU_snoc (i : Int) {ls : List Lin} {k : Nat} (hk : k < ls.length) : expandU i (ls.take (k + 1)) = expandU i (ls.take k) ++ linU i ls[k] := by
 rw [l_t hk, expandU, List.flatMap_append]
 simp [expandU]
theorem priceL_snoc {ls : List Lin} {k : Nat} (hk : k < ls.length) : priceL (ls.take (k + 1)) = priceL (ls.take k) ++ linP ls[k] := by
 rw [l_t hk, priceL, List.flatMap_append]
 simp [priceL]
theorem cntTake_le {k : Int} {ls : List Lin} (h : ∀ l ∈ ls, okLine k l) (i : Nat) : cntOf (ls.take i) ≤ cntOf ls := by
 have h1 := all_bound (k := k) (ls := ls.drop i) fun l hl => h l (List.mem_of_mem_drop hl)
 have : cntOf ls = cntOf (ls.take i) + cntOf (ls.drop i) := by
  conv => lhs; rw [← List.take_append_drop i ls]
  rw [cntOf, l_al, List.sum_append]; rfl
 omega
section
variable {h0 h : Heap} {l : List HP}
theorem own_part {α : Type} {enc : α → List Value} {sz T b n c : Nat} {D : List α} (hsz : ∀ x, (enc x).length = sz) (S : St h0 h (ownA enc sz T (.slice (some ⟨b, 0, none⟩) n c) D :: l)) {i j : Nat} (hi : i < D.length) (hj : j < sz) : rd1 h (.pointer (some ⟨b, i * sz + j, none⟩)) = (enc D[i])[j]? := by
 obtain ⟨b', o', hA, hr⟩ := S.arr hsz i hi
 cases hA
 have := rP hr j hj
 simpa using this
theorem units_ok (o : Odr) (num : Int) (ok : OkO o) (ha : ∀ h', St h0 h' l → Arr Lin.enc 4 h' o.A o.ls) (S : St h0 h l) :
  CallsH Tryz.prog 51 [.agg o.enc.toArray, .int .i64 num] h fun v h' => St h0 h' (ownA Unt.enc 4 70 v (unitsOf o num) :: l) := by
 obtain ⟨kk, hlk⟩ := ok.ls
 have hn0 := ok.n0
 have hn1 := ok.n1
 have hcnt := ok.cnt
 (refine eK c_order_units (l_a rfl) fun K hK => ?_; (try simp (disch := first|omega|assumption|exact l_a rfl) only [go_sem, ↓wBk, simprocAttr, ir_order_units]))
 (refine tA S ?_; clear S; intro g h S; (try simp only [sC, sN, l_h, l_i, Nat.zero_add, Nat.reduceAdd, l_j, l_k] at S); ((try clear F); have F := S.all; (try simp only [aC, aN, yC, and_true] at F)))
 have S : St h0 h (ownA zEnc 1 2 (.slice none 0 0) [] :: ownA Unt.enc 4 70 (.slice none 0 0) [] :: cellA g o.enc 118 :: l) := S.nilS.nilS
 (try simp (disch := first|omega|assumption|exact l_a rfl) only [go_sem, ↓wBk, simprocAttr, F, Odr.enc])
 refine lI (fun ρ h' => ρ 1 = .int .i64 num ∧ ρ 2 = .pointer (some ⟨g, 0, none⟩) ∧ ρ 16 = .slice o.A o.ls.length o.c ∧ ρ 17 = .int .i64 o.ls.length ∧ ∃ i : Nat, ρ 18 = .int .i64 i ∧ i ≤ o.ls.length ∧
  ∃ (Ap Au : Option Addr) (cp cu : Nat), ρ 6 = .slice Ap (priceL (o.ls.take i)).length cp ∧ ρ 5 = .slice Au (priceL (o.ls.take i)).length cu ∧
  St h0 h' (ownA zEnc 1 2 (.slice Ap (priceL (o.ls.take i)).length cp) (priceL (o.ls.take i)) :: ownA Unt.enc 4 70 (.slice Au (priceL (o.ls.take i)).length cu) (expandU num (o.ls.take i)) :: cellA g o.enc 118 :: l)) (fun ρ _ => o.ls.length - (iv (ρ 18)).toNat) ?_ ?_
 ·(try simp (disch := first|omega|assumption|exact l_a rfl) only [go_sem, ↓wBk, simprocAttr])
  exact ⟨0, rfl, by omega, none, none, 0, 0, rfl, rfl, S⟩
 clear S F
 rintro ρ h J hJ ⟨e1, e2, e16, e17, i, e18, hi, Ap, Au, cp, cu, e6, e5, S⟩
 (try simp (disch := first|omega|assumption|exact l_a rfl) only [go_sem, ↓wBk, simprocAttr, e17, e18])
 refine cD (fun hlt => ?_) (fun hlt => ?_)
 ·have hil : i < o.ls.length := by omega
  obtain ⟨b, off, hA, hr1⟩ := (ha h S.tl.tl.tl).at hil
  have hs1 := expandU_snoc num hil
  have hs2 := priceL_snoc hil
  have hct := cntTake_le hlk (i + 1)
  have hc1 := cntOf_snoc hil
  have hpl := (len_sum (o.ls.take i) fun x hx => ok.count x (List.mem_of_mem_take hx)).1
  have hul := ((len_sum (o.ls.take i) fun x hx => ok.count x (List.mem_of_mem_take hx)).2.2 num).1
  have hx := hlk _ (l_v hil)
  generalize o.ls[i] = x at *
  obtain ⟨⟨_, ⟨hp0, hp1⟩, hx0, hx1⟩, _⟩ := hx
  generalize hP : priceL (o.ls.take i) = P at *
  generalize hU : expandU num (o.ls.take i) = U at *
  (try simp (disch := first|omega|assumption|exact l_a rfl) only [go_sem, ↓wBk, simprocAttr, e16, e18, hA, hr1])
  (refine tA S ?_; clear S; intro q h S; (try simp only [sC, sN, l_h, l_i, Nat.zero_add, Nat.reduceAdd, l_j, l_k] at S); ((try clear F); have F := S.all; (try simp only [aC, aN, yC, and_true] at F)))
  (try simp (disch := first|omega|assumption|exact l_a rfl) only [go_sem, ↓wBk, simprocAttr, F, Lin.enc])
  (refine tS (by first | exact S | exact S.p1 | exact S.p2 | exact S.p3 | exact S.p4 | exact S.p5 | exact S.p6 | exact S.p7 | exact S.p8 | exact S.p9 | exact S.p10 | exact S.p11) (by rfl) (by rfl) (l_a rfl) ?_; clear S; intro h S; (try simp only [sC, sN, l_h, l_i, Nat.zero_add, Nat.reduceAdd, l_j, l_k] at S); ((try clear F); have F := S.all; (try simp only [aC, aN, yC, and_true] at F)))
  (try simp (disch := first|omega|assumption|exact l_a rfl) only [go_sem, ↓wBk, simprocAttr, F])
  have hadd : ∀ j : Nat, j ≤ x.count.toNat → (P ++ List.replicate j x.price).length ≤ 200 := fun j hj => by rw [l_m, l_ah]; omega
  refine lI (fun ρ' h' => ρ' 1 = .int .i64 num ∧ ρ' 2 = .pointer (some ⟨g, 0, none⟩) ∧ ρ' 16 = .slice o.A o.ls.length o.c ∧ ρ' 17 = .int .i64 o.ls.length ∧ ρ' 18 = .int .i64 i ∧ ρ' 8 = .pointer (some ⟨q, 0, none⟩) ∧ ρ' 23 = .int .i64 x.count ∧ ∃ j : Nat, ρ' 24 = .int .i64 j ∧ j ≤ x.count.toNat ∧
   ∃ (Ap Au : Option Addr) (cp cu : Nat), ρ' 6 = .slice Ap (P ++ List.replicate j x.price).length cp ∧ ρ' 5 = .slice Au (P ++ List.replicate j x.price).length cu ∧
   St h0 h' (ownA zEnc 1 2 (.slice Ap (P ++ List.replicate j x.price).length cp) (P ++ List.replicate j x.price) :: ownA Unt.enc 4 70 (.slice Au (P ++ List.replicate j x.price).length cu) (U ++ List.replicate j ⟨num, x.sku, x.cat, x.price⟩) :: cellA q x.enc 125 :: cellA g o.enc 118 :: l)) (fun ρ' _ => x.count.toNat - (iv (ρ' 24)).toNat) ?_ ?_
  ·(try simp (disch := first|omega|assumption|exact l_a rfl) only [go_sem, ↓wBk, simprocAttr, e1, e2, e16, e17, e18, e5, e6])
   exact ⟨0, rfl, by omega, Ap, Au, cp, cu, by simp, by simp, by simp only [List.replicate_zero, l_am]; exact S.p2.p2⟩
  have p18 := e18
  clear S F e1 e2 e16 e17 e18 e6 e5 hr1
  rintro ρ' h J' hJ' ⟨e1, e2, e16, e17, e18, e8, e23, j, e24, hj, Ap, Au, cp, cu, e6, e5, S⟩
  (try simp (disch := first|omega|assumption|exact l_a rfl) only [go_sem, ↓wBk, simprocAttr, e23, e24])
  refine cD (fun hlt2 => ?_) (fun hlt2 => ?_)
  ·have hjl : j < x.count.toNat := by omega
   have hl1 := hadd (j + 1) (by omega)
   have hl0 := hadd j (by omega)
   have er1 : P ++ List.replicate j x.price ++ [x.price] = P ++ List.replicate (j + 1) x.price := by rw [l_q, ← List.replicate_succ']
   have er2 : U ++ List.replicate j (⟨num, x.sku, x.cat, x.price⟩ : Unt) ++ [⟨num, x.sku, x.cat, x.price⟩] = U ++ List.replicate (j + 1) ⟨num, x.sku, x.cat, x.price⟩ := by rw [l_q, ← List.replicate_succ']
   have hll : (U ++ List.replicate j (⟨num, x.sku, x.cat, x.price⟩ : Unt)).length = (P ++ List.replicate j x.price).length := by rw [l_m, l_m, l_ah, l_ah]; omega
   have hll2 : (P ++ List.replicate j x.price).length + 1 = (P ++ List.replicate (j + 1) x.price).length := by rw [l_m, l_m, l_ah, l_ah]; omega
   ((try clear F); have F := S.all; (try simp only [aC, aN, yC, and_true] at F))
   (try simp (disch := first|omega|assumption|exact l_a rfl) only [go_sem, ↓wBk, simprocAttr, e1, e8, F, Lin.enc, e5])
   (refine tA S ?_; clear S; intro r1 h S; (try simp only [sC, sN, l_h, l_i, Nat.zero_add, Nat.reduceAdd, l_j, l_k] at S); ((try clear F); have F := S.all; (try simp only [aC, aN, yC, and_true] at F)))
   (try simp (disch := first|omega|assumption|exact l_a rfl) only [go_sem, ↓wBk, simprocAttr])
   refine tA1 (bytes := 32) (x := (⟨num, x.sku, x.cat, x.price⟩ : Unt)) Unt.enc_len (by omega) Unt.enc_plain rfl rfl S.p2.p1 (by omega) (by omega) ?_
   clear S F
   intro v h S
   rw [er2] at S
   obtain ⟨Au, cu, rfl⟩ := S.sl
   rw [show (U ++ List.replicate (j + 1) (⟨num, x.sku, x.cat, x.price⟩ : Unt)).length = (P ++ List.replicate (j + 1) x.price).length by rw [← hll2, ← hll, ← er2, l_m]; rfl] at S ⊢
   ((try clear F); have F := S.all; (try simp only [aC, aN, yC, and_true] at F))
   (try simp (disch := first|omega|assumption|exact l_a rfl) only [go_sem, ↓wBk, simprocAttr, e6, e8, F, Lin.enc])
   (refine tA S ?_; clear S; intro r2 h S; (try simp only [sC, sN, l_h, l_i, Nat.zero_add, Nat.reduceAdd, l_j, l_k] at S); ((try clear F); have F := S.all; (try simp only [aC, aN, yC, and_true] at F)))
   (try simp (disch := first|omega|assumption|exact l_a rfl) only [go_sem, ↓wBk, simprocAttr])
   refine tA1 (bytes := 8) (x := x.price) zEl (by omega) zEp rfl rfl S.p2.p1 (by omega) (by omega) ?_
   clear S F
   intro v h S
   rw [er1] at S
   obtain ⟨Ap, cp, rfl⟩ := S.sl
   (try simp (disch := first|omega|assumption|exact l_a rfl) only [go_sem, ↓wBk, simprocAttr, e24])
   refine hJ' _ _ ?_ ?_
   ·(try simp (disch := first|omega|assumption|exact l_a rfl) only [go_sem, ↓wBk, simprocAttr, e1, e2, e16, e17, e18, e8, e23])
    exact ⟨j + 1, rfl, by omega, Ap, Au, cp, cu, rfl, rfl, S⟩
   ·(try simp (disch := first|omega|assumption|exact l_a rfl) only [go_sem, ↓wBk, simprocAttr, e24])
    omega
  ·obtain rfl : j = x.count.toNat := by omega
   (try simp (disch := first|omega|assumption|exact l_a rfl) only [go_sem, ↓wBk, simprocAttr, e18])
   refine hJ _ _ ?_ ?_
   ·(try simp (disch := first|omega|assumption|exact l_a rfl) only [go_sem, ↓wBk, simprocAttr, e1, e2, e16, e17, hA])
    exact ⟨i + 1, rfl, by omega, Ap, Au, cp, cu, by rw [e6, hs2]; rfl, by rw [e5, hs2]; rfl, by rw [hs1, hs2]; exact S.p2.tl⟩
   ·(try simp (disch := first|omega|assumption|exact l_a rfl) only [go_sem, ↓wBk, simprocAttr, p18])
    omega
 obtain rfl : i = o.ls.length := by omega
 rw [l_aj] at S e6 e5
 clear hJ
 ((try clear F); have F := S.all; (try simp only [aC, aN, yC, and_true] at F))
 have hpl := (len_sum o.ls ok.count).1
 have hul := ((len_sum o.ls ok.count).2.2 num).1
 (try simp (disch := first|omega|assumption|exact l_a rfl) only [go_sem, ↓wBk, simprocAttr, e2, F, Odr.enc, zerosL])
 (refine tA S ?_; clear S; intro t h S; (try simp only [sC, sN, l_h, l_i, Nat.zero_add, Nat.reduceAdd, l_j, l_k] at S); ((try clear F); have F := S.all; (try simp only [aC, aN, yC, and_true] at F)))
 obtain ⟨n, hn⟩ : ∃ n, (priceL o.ls).length = n := ⟨_, rfl⟩
 rw [hn] at e5 e6 S hul
 have hnn : n ≤ 200 ∧ 0 < n := by
  have := all_bound hlk
  omega
 (try simp (disch := first|omega|assumption|exact l_a rfl) only [go_sem, ↓wBk, simprocAttr])
 refine lI (fun ρ' h' => ρ' 5 = .slice Au n cu ∧ ρ' 6 = .slice Ap n cp ∧ ρ' 53 = .slice (some ⟨t, 0, none⟩) 3 3 ∧ ρ' 54 = .int .i64 3 ∧ ∃ r : Nat, ρ' 55 = .int .i64 r ∧ r ≤ 3 ∧
  St h0 h' (cellA t [.int .i64 o.disc, .int .i64 (-1), .int .i64 o.tax, .int .i64 1, .int .i64 o.ship, .int .i64 1] 174 :: ownA zEnc 1 2 (.slice Ap n cp) (priceL o.ls) :: ownA Unt.enc 4 70 (.slice Au n cu) (unitsR o num r) :: cellA g o.enc 118 :: l)) (fun ρ' _ => 3 - (iv (ρ' 55)).toNat) ?_ ?_
 ·(try simp (disch := first|omega|assumption|exact l_a rfl) only [go_sem, ↓wBk, simprocAttr, e5, e6])
  exact ⟨0, rfl, by omega, S⟩
 clear S F e1 e2 e16 e17 e18 e6 e5
 rintro ρ h J hJ ⟨e5, e6, e53, e54, r, e55, hr, S⟩
 (try simp (disch := first|omega|assumption|exact l_a rfl) only [go_sem, ↓wBk, simprocAttr, e54, e55])
 refine cD (fun hlt => ?_) (fun hlt => ?_)
 case refine_2 =>
  obtain rfl : r = 3 := by omega
  (try simp (disch := first|omega|assumption|exact l_a rfl) only [go_sem, ↓wBk, simprocAttr, e5])
  exact hK _ _ (S.p2.d1.d1.d1)
 have hr3 : r < 3 := by omega
 have hps : rdN h t (r * 2) 2 = some [.int .i64 (psum o r), .int .i64 (psgn r)] := by
  rw [st_rdN S (by simp only [l_f, l_g]; omega)]
  match r, hr3 with
  | 0, _ => rfl
  | 1, _ => rfl
  | 2, _ => rfl
 have hop := ok.okp r
 have hask := ok.ask hop
 obtain ⟨hs1, hs2, hs3⟩ := ok.sh r
 have hrl := unitsR_len ok num r
 have hrb := unitsR_bound ok num r
 have hsucc : unitsR o num (r + 1) = addS (psgn r) (shF (psum o r).toNat (priceL o.ls)) (unitsR o num r) := rfl
 have hsg := psgn_cases r
 have hpi := shF_is (psum o r).toNat (priceL o.ls)
 rw [hn] at hs1 hrl
 generalize shF (psum o r).toNat (priceL o.ls) = sh at *
 generalize unitsR o num r = U at *
 generalize psum o r = su at *
 generalize psgn r = sg at *
 (try simp (disch := first|omega|assumption|exact l_a rfl) only [go_sem, ↓wBk, simprocAttr, e53, e55, hps])
 (refine tA S ?_; clear S; intro p h S; (try simp only [sC, sN, l_h, l_i, Nat.zero_add, Nat.reduceAdd, l_j, l_k] at S); ((try clear F); have F := S.all; (try simp only [aC, aN, yC, and_true] at F)))
 (try simp (disch := first|omega|assumption|exact l_a rfl) only [go_sem, ↓wBk, simprocAttr, F])
 (refine tS (by first | exact S | exact S.p1 | exact S.p2 | exact S.p3 | exact S.p4 | exact S.p5 | exact S.p6 | exact S.p7 | exact S.p8 | exact S.p9 | exact S.p10 | exact S.p11) (by rfl) (by rfl) (l_a rfl) ?_; clear S; intro h S; (try simp only [sC, sN, l_h, l_i, Nat.zero_add, Nat.reduceAdd, l_j, l_k] at S); ((try clear F); have F := S.all; (try simp only [aC, aN, yC, and_true] at F)))
 (try simp (disch := first|omega|assumption|exact l_a rfl) only [go_sem, ↓wBk, simprocAttr, F, e6])
 have hsh := SharesA_ok (c := cp) (A := Ap) su (priceL o.ls) (fun h' S => S.p2.arr zEl) (by omega) S
 rw [hn] at hsh
 refine cI hsh ?_
 clear S F hsh hps
 rintro _ h (⟨hx, _⟩ | ⟨_, s, out, rfl, hI, hlo, S⟩)
 ·exact (hx hask).elim
 have := hI.unique hpi
 subst this
 clear hI hpi
 obtain ⟨As, cs, rfl⟩ := S.sl
 rw [hs1] at S ⊢
 obtain ⟨bs, rfl⟩ := S.ownAt (by omega)
 obtain ⟨bu, rfl⟩ := S.p4.ownAt (by omega)
 have hXl : (addS sg out U).length = U.length := addS_len (by omega)
 (try simp (disch := first|omega|assumption|exact l_a rfl) only [go_sem, ↓wBk, simprocAttr])
 refine lI (fun ρ' h' => ρ' 5 = .slice (some ⟨bu, 0, none⟩) n cu ∧ ρ' 6 = ρ 6 ∧ ρ' 53 = ρ 53 ∧ ρ' 54 = ρ 54 ∧ ρ' 55 = ρ 55 ∧ ρ' 10 = .pointer (some ⟨p, 0, none⟩) ∧ ρ' 66 = .slice (some ⟨bs, 0, none⟩) n cs ∧ ρ' 67 = .int .i64 n ∧ ∃ k : Nat, ρ' 68 = .int .i64 k ∧ k ≤ n ∧
  St h0 h' (ownA Unt.enc 4 70 (.slice (some ⟨bu, 0, none⟩) n cu) ((addS sg out U).take k ++ U.drop k) :: ownA zEnc 1 2 (.slice (some ⟨bs, 0, none⟩) n cs) out :: cellA p [.int .i64 su, .int .i64 sg] 174 ::
   cellA t [.int .i64 o.disc, .int .i64 (-1), .int .i64 o.tax, .int .i64 1, .int .i64 o.ship, .int .i64 1] 174 :: ownA zEnc 1 2 (.slice Ap n cp) (priceL o.ls) :: cellA g o.enc 118 :: l)) (fun ρ' _ => n - (iv (ρ' 68)).toNat) ?_ ?_
 ·(try simp (disch := first|omega|assumption|exact l_a rfl) only [go_sem, ↓wBk, simprocAttr, e5])
  refine ⟨0, rfl, by omega, ?_⟩
  have := S.p4
  simpa using this
 have p5 := e5
 have p6 := e6
 have p53 := e53
 have p54 := e54
 have p55 := e55
 clear S e5 e6 e53 e54 e55
 rintro ρ' h J' hJ' ⟨e5, e6, e53, e54, e55, e10, e66, e67, k, e68, hk, S⟩
 (try simp (disch := first|omega|assumption|exact l_a rfl) only [go_sem, ↓wBk, simprocAttr, e67, e68])
 refine cD (fun hlt2 => ?_) (fun hlt2 => ?_)
 ·have hkn : k < n := by omega
  have hml := mid_len (addS sg out U) U hXl k
  have hrs := own_rd S.p1 (i := k) (l_r (by omega))
  have hru := own_part Unt.enc_len S (i := k) (j := 3) (by omega) (by omega)
  rw [mid_get _ _ hXl (by omega)] at hru
  have hrg := st_rd1 (off := 1) S.p2
  simp only [l_p, l_o] at hrg
  have hsb := hs3 _ (l_v (l := out) (n := k) (by omega))
  have hub := hrb _ (l_v (l := U) (n := k) (by omega))
  have hXk : (addS sg out U)[k]'(by omega) = { (U[k]'(by omega)) with share := (U[k]'(by omega)).share + sg * out[k]'(by omega) } := by simp only [addS, List.getElem_zipWith]
  have hset := set_mid (addS sg out U) U hXl (k := k) (by omega)
  rw [hXk] at hset
  have hmg := mid_get (addS sg out U) U hXl (k := k) (by omega)
  generalize out[k]'(by omega) = s at *
  generalize hu : U[k]'(by omega) = u at *
  simp only [Unt.enc, l_p, l_o] at hru
  have w1 : IntKind.i64.wrap (sg * s) = sg * s := by
   rcases hsg with rfl | rfl <;> exact wrap_i64 (by omega) (by omega)
  have w2 : IntKind.i64.wrap (u.share + sg * s) = u.share + sg * s := by
   rcases hsg with rfl | rfl <;> exact wrap_i64 (by omega) (by omega)
  (try simp (disch := first|omega|assumption|exact l_a rfl) only [go_sem, ↓wBk, simprocAttr, e66, e68, hrs])
  refine dE ?_
  (try simp (disch := first|omega|assumption|exact l_a rfl) only [go_sem, ↓wBk, simprocAttr, e5, e68, e10, hru, hrg, hrs, w1, w2])
  refine st_setPart Unt.enc_len (i := k) (j := 3) (x := { u with share := u.share + sg * s }) S (by omega) (by omega) (Nat.le_refl 4) rfl rfl (by rw [hmg]; rfl) ?_
  clear S hru hrg hrs
  intro h S
  rw [hset] at S
  (try simp (disch := first|omega|assumption|exact l_a rfl) only [go_sem, ↓wBk, simprocAttr, e68])
  refine hJ' _ _ ?_ ?_
  ·(try simp (disch := first|omega|assumption|exact l_a rfl) only [go_sem, ↓wBk, simprocAttr, e5, e6, e53, e54, e55, e10, e66, e67])
   exact ⟨k + 1, rfl, by omega, S⟩
  ·(try simp (disch := first|omega|assumption|exact l_a rfl) only [go_sem, ↓wBk, simprocAttr, e68])
   omega
 ·obtain rfl : k = n := by omega
  rw [List.take_of_length_le (by omega), List.drop_of_length_le (by omega), l_am, ← hsucc] at S
  (try simp (disch := first|omega|assumption|exact l_a rfl) only [go_sem, ↓wBk, simprocAttr, e55, p55])
  refine hJ _ _ ?_ ?_
  ·(try simp (disch := first|omega|assumption|exact l_a rfl) only [go_sem, ↓wBk, simprocAttr, e5, p5, e6, p6, e53, p53, e54, p54])
   exact ⟨r + 1, rfl, by omega, S.d1.d1.p2.p2⟩
  ·(try simp (disch := first|omega|assumption|exact l_a rfl) only [go_sem, ↓wBk, simprocAttr, p55])
   omega
end
end
def rdV (n : Nat) (bs : List UInt8) (bad : Bool) : Int := if bad = true ∨ bs.length < n then 0 else num (bs.take n)
def rdB (n : Nat) (bs : List UInt8) (bad : Bool) : List UInt8 := if bad = true ∨ bs.length < n then [] else bs.drop n
def rdX (n : Nat) (bs : List UInt8) (bad : Bool) : Bool := bad || decide (bs.length < n)
theorem rdV_nn (n : Nat) (bs : List UInt8) (bad : Bool) : 0 ≤ rdV n bs bad ∧ rdV n bs bad < 256 ^ n := by
 unfold rdV
 split
 ·exact ⟨Int.le_refl _, Int.pow_pos (by decide)⟩
 ·rename_i hb
  have h1 := num_lt (bs.take n)
  have h2 : (bs.take n).length = n := by simp only [not_or] at hb; simp; omega
  rw [h2] at h1
  exact ⟨num_nonneg _, h1⟩
def stp (n : Nat) (q : List UInt8 × Bool) : List UInt8 × Bool := (rdB n q.1 q.2, rdX n q.1 q.2)
def vl (n : Nat) (q : List UInt8 × Bool) : Int := rdV n q.1 q.2
def q1 (q : List UInt8 × Bool) := stp 2 q
def q2 (q : List UInt8 × Bool) := stp 1 (q1 q)
def q3 (q : List UInt8 × Bool) := stp 2 (q2 q)
def q4 (q : List UInt8 × Bool) := stp 2 (q3 q)
def q5 (q : List UInt8 × Bool) := stp 2 (q4 q)
def q6 (q : List UInt8 × Bool) := stp 2 (q5 q)
def q7 (q : List UInt8 × Bool) := stp 2 (q6 q)
def q8 (q : List UInt8 × Bool) := stp 1 (q7 q)
def q9 (q : List UInt8 × Bool) := stp 2 (q8 q)
def q10 (q : List UInt8 × Bool) := stp 1 (q9 q)
def Pol.fits (p : Pol) : Prop := (0 ≤ p.w ∧ p.w < 65536) ∧ (0 ≤ p.f0 ∧ p.f0 < 65536) ∧ (0 ≤ p.f1 ∧ p.f1 < 65536) ∧ (0 ≤ p.f2 ∧ p.f2 < 65536) ∧ (0 ≤ p.f3 ∧ p.f3 < 65536) ∧ (0 ≤ p.s0 ∧ p.s0 < 65536) ∧ (0 ≤ p.t0 ∧ p.t0 < 256) ∧ (0 ≤ p.s1 ∧ p.s1 < 65536) ∧ (0 ≤ p.t1 ∧ p.t1 < 256) ∧ (0 ≤ p.s2 ∧ p.s2 < 65536) ∧ (0 ≤ p.t2 ∧ p.t2 < 256) ∧ (0 ≤ p.s3 ∧ p.s3 < 65536) ∧ (0 ≤ p.t3 ∧ p.t3 < 256)
theorem le_num_n (l : List UInt8) (n : Nat) (h : l.length = n) : le n (num l) = l := by subst h; exact le_num l
theorem arr_none {α : Type} {enc : α → List Value} {sz : Nat} {h : Heap} {A : Option Addr} {xs : List α} (ha : Arr enc sz h A xs) : A = none → xs = [] := by
 rintro rfl
 cases xs with
 | nil => rfl
 | cons x xs => obtain ⟨b, off, hA, _⟩ := ha 0 (by simp); cases hA
end Go.Proofs.YtijnkebgciaieaaGreat.MX
