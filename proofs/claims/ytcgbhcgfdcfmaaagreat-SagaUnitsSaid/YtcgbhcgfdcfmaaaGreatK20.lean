import Derived.Test.YtcgbhcgfdcfmaaaGreatK19
import Derived.Test.YtcgbhcgfdcfmaaaGreatK12
import Derived.Test.YtcgbhcgfdcfmaaaGreatK18
import Derived.Test.YtcgbhcgfdcfmaaaGreatK14
namespace Go.Proofs.YtcgbhcgfdcfmaaaGreat.MX
open Go Go.Proofs
set_option linter.unusedSimpArgs false
set_option linter.unusedVariables false
section
set_option maxHeartbeats 8000000
theorem expandU_snoc (i : Int) {ls : List Lin} {k : Nat} (hk : k < ls.length) : expandU i (ls.take (k + 1)) = expandU i (ls.take k) ++ linU i ls[k] := by
 rw [l_t hk, expandU, List.flatMap_append]
 simp [expandU]
theorem priceL_snoc {ls : List Lin} {k : Nat} (hk : k < ls.length) : priceL (ls.take (k + 1)) = priceL (ls.take k) ++ linP ls[k] := by
 rw [l_t hk, priceL, List.flatMap_append]
 simp [priceL]
theorem cntTake_le {k : Int} {ls : List Lin} (h : ∀ l ∈ ls, okLine k l) (i : Nat) : cntOf (ls.take i) ≤ cntOf ls := by
 have h1 := all_bound (k := k) (ls := ls.drop i) fun l hl => h l (List.mem_of_mem_drop hl)
 have : cntOf ls = cntOf (ls.take i) + cntOf (ls.drop i) := by
  conv => lhs; rw [← List.take_append_drop i ls]
  rw [cntOf, l_al, List.sum_append]; rfl
 omega
section
variable {h0 h : Heap} {l : List HP}
theorem own_part {α : Type} {enc : α → List Value} {sz T b n c : Nat} {D : List α} (hsz : ∀ x, (enc x).length = sz) (S : St h0 h (ownA enc sz T (.slice (some ⟨b, 0, none⟩) n c) D :: l)) {i j : Nat} (hi : i < D.length) (hj : j < sz) : rd1 h (.pointer (some ⟨b, i * sz + j, none⟩)) = (enc D[i])[j]? := by
 obtain ⟨b', o', hA, hr⟩ := S.arr hsz i hi
 cases hA
 have := rP hr j hj
 simpa using this
theorem units_ok (o : Odr) (num : Int) (ok : OkO o) (ha : ∀ h', St h0 h' l → Arr Lin.enc 4 h' o.A o.ls) (S : St h0 h l) :
  CallsH Tryz.prog 42 [.agg o.enc.toArray, .int .i64 num] h fun v h' => St h0 h' (ownA Unt.enc 4 72 v (unitsOf o num) :: l) := by
 obtain ⟨kk, hlk⟩ := ok.ls
 have hn0 := ok.n0
 have hn1 := ok.n1
 have hcnt := ok.cnt
 refine EN i42.eq_1 fun K hK => Wa ?_
 (revert S; (try clear F); refine AL fun g h S F => ?_)
 have S : St h0 h (ownA zEnc 1 2 (.slice none 0 0) [] :: ownA Unt.enc 4 72 (.slice none 0 0) [] :: cellA g o.enc 90 :: l) := S.nilS.nilS
 refine Wc F @Odr.enc.eq_1 ?_
 refine lI (fun ρ h' => ρ 1 = .int .i64 num ∧ ρ 2 = .pointer (some ⟨g, 0, none⟩) ∧ ρ 16 = .slice o.A o.ls.length o.c ∧ ρ 17 = .int .i64 o.ls.length ∧ ∃ i : Nat, ρ 18 = .int .i64 i ∧ i ≤ o.ls.length ∧
  ∃ (Ap Au : Option Addr) (cp cu : Nat), ρ 6 = .slice Ap (priceL (o.ls.take i)).length cp ∧ ρ 5 = .slice Au (priceL (o.ls.take i)).length cu ∧
  St h0 h' (ownA zEnc 1 2 (.slice Ap (priceL (o.ls.take i)).length cp) (priceL (o.ls.take i)) :: ownA Unt.enc 4 72 (.slice Au (priceL (o.ls.take i)).length cu) (expandU num (o.ls.take i)) :: cellA g o.enc 90 :: l)) (fun ρ _ => o.ls.length - (iv (ρ 18)).toNat) ?_ ?_
 ·refine Wa ?_
  exact ⟨0, rfl, by omega, none, none, 0, 0, rfl, rfl, S⟩
 clear S F
 rintro ρ h J hJ ⟨e1, e2, e16, e17, i, e18, hi, Ap, Au, cp, cu, e6, e5, S⟩
 refine Wc e17 e18 ?_
 refine cD (fun hlt => ?_) (fun hlt => ?_)
 ·have hil : i < o.ls.length := by omega
  obtain ⟨b, off, hA, hr1⟩ := (ha h S.tl.tl.tl).at hil
  have hs1 := expandU_snoc num hil
  have hs2 := priceL_snoc hil
  have hct := cntTake_le hlk (i + 1)
  have hc1 := cntOf_snoc hil
  have hpl := (len_sum (o.ls.take i) fun x hx => ok.count x (List.mem_of_mem_take hx)).1
  have hul := ((len_sum (o.ls.take i) fun x hx => ok.count x (List.mem_of_mem_take hx)).2.2 num).1
  have hx := hlk _ (l_v hil)
  generalize o.ls[i] = x at *
  obtain ⟨⟨_, ⟨hp0, hp1⟩, hx0, hx1⟩, _⟩ := hx
  generalize hP : priceL (o.ls.take i) = P at *
  generalize hU : expandU num (o.ls.take i) = U at *
  refine We e16 e18 hA hr1 ?_
  (revert S; (try clear F); refine AL fun q h S F => ?_)
  refine Wc F @Lin.enc.eq_1 ?_
  (revert S; (try clear F); refine ST fun h S F => ?_)
  refine Wb F ?_
  have hadd : ∀ j : Nat, j ≤ x.count.toNat → (P ++ List.replicate j x.price).length ≤ 200 := fun j hj => by rw [l_m, l_ah]; omega
  refine lI (fun ρ' h' => ρ' 1 = .int .i64 num ∧ ρ' 2 = .pointer (some ⟨g, 0, none⟩) ∧ ρ' 16 = .slice o.A o.ls.length o.c ∧ ρ' 17 = .int .i64 o.ls.length ∧ ρ' 18 = .int .i64 i ∧ ρ' 8 = .pointer (some ⟨q, 0, none⟩) ∧ ρ' 23 = .int .i64 x.count ∧ ∃ j : Nat, ρ' 24 = .int .i64 j ∧ j ≤ x.count.toNat ∧
   ∃ (Ap Au : Option Addr) (cp cu : Nat), ρ' 6 = .slice Ap (P ++ List.replicate j x.price).length cp ∧ ρ' 5 = .slice Au (P ++ List.replicate j x.price).length cu ∧
   St h0 h' (ownA zEnc 1 2 (.slice Ap (P ++ List.replicate j x.price).length cp) (P ++ List.replicate j x.price) :: ownA Unt.enc 4 72 (.slice Au (P ++ List.replicate j x.price).length cu) (U ++ List.replicate j ⟨num, x.sku, x.cat, x.price⟩) :: cellA q x.enc 93 :: cellA g o.enc 90 :: l)) (fun ρ' _ => x.count.toNat - (iv (ρ' 24)).toNat) ?_ ?_
  ·refine Wh e1 e2 e16 e17 e18 e5 e6 ?_
   exact ⟨0, rfl, by omega, Ap, Au, cp, cu, by simp, by simp, by simp only [List.replicate_zero, l_am]; exact S.p2.p2⟩
  have p18 := e18
  clear S F e1 e2 e16 e17 e18 e6 e5 hr1
  rintro ρ' h J' hJ' ⟨e1, e2, e16, e17, e18, e8, e23, j, e24, hj, Ap, Au, cp, cu, e6, e5, S⟩
  refine Wc e23 e24 ?_
  refine cD (fun hlt2 => ?_) (fun hlt2 => ?_)
  ·have hjl : j < x.count.toNat := by omega
   have hl1 := hadd (j + 1) (by omega)
   have hl0 := hadd j (by omega)
   have er1 : P ++ List.replicate j x.price ++ [x.price] = P ++ List.replicate (j + 1) x.price := by rw [l_q, ← List.replicate_succ']
   have er2 : U ++ List.replicate j (⟨num, x.sku, x.cat, x.price⟩ : Unt) ++ [⟨num, x.sku, x.cat, x.price⟩] = U ++ List.replicate (j + 1) ⟨num, x.sku, x.cat, x.price⟩ := by rw [l_q, ← List.replicate_succ']
   have hll : (U ++ List.replicate j (⟨num, x.sku, x.cat, x.price⟩ : Unt)).length = (P ++ List.replicate j x.price).length := by rw [l_m, l_m, l_ah, l_ah]; omega
   have hll2 : (P ++ List.replicate j x.price).length + 1 = (P ++ List.replicate (j + 1) x.price).length := by rw [l_m, l_m, l_ah, l_ah]; omega
   ((try clear F); have F := S.fx)
   refine Wf e1 e8 F @Lin.enc.eq_1 e5 ?_
   (revert S; (try clear F); refine AL fun r1 h S F => ?_)
   refine Wa ?_
   refine tA1 (bytes := 32) (x := (⟨num, x.sku, x.cat, x.price⟩ : Unt)) Unt.enc_len (by omega) Unt.enc_plain rfl rfl S.p2.p1 (by omega) (by omega) ?_
   clear S F
   intro v h S
   rw [er2] at S
   obtain ⟨Au, cu, rfl⟩ := S.sl
   rw [show (U ++ List.replicate (j + 1) (⟨num, x.sku, x.cat, x.price⟩ : Unt)).length = (P ++ List.replicate (j + 1) x.price).length by rw [← hll2, ← hll, ← er2, l_m]; rfl] at S ⊢
   ((try clear F); have F := S.fx)
   refine We e6 e8 F @Lin.enc.eq_1 ?_
   (revert S; (try clear F); refine AL fun r2 h S F => ?_)
   refine Wa ?_
   refine tA1 (bytes := 8) (x := x.price) zEl (by omega) zEp rfl rfl S.p2.p1 (by omega) (by omega) ?_
   clear S F
   intro v h S
   rw [er1] at S
   obtain ⟨Ap, cp, rfl⟩ := S.sl
   refine Wb e24 ?_
   refine hJ' _ _ ?_ ?_
   ·refine Wh e1 e2 e16 e17 e18 e8 e23 ?_
    exact ⟨j + 1, rfl, by omega, Ap, Au, cp, cu, rfl, rfl, S⟩
   ·refine Wb e24 ?_
    omega
  ·obtain rfl : j = x.count.toNat := by omega
   refine Wb e18 ?_
   refine hJ _ _ ?_ ?_
   ·refine Wf e1 e2 e16 e17 hA ?_
    exact ⟨i + 1, rfl, by omega, Ap, Au, cp, cu, by rw [e6, hs2]; rfl, by rw [e5, hs2]; rfl, by rw [hs1, hs2]; exact S.p2.tl⟩
   ·refine Wb p18 ?_
    omega
 obtain rfl : i = o.ls.length := by omega
 rw [l_aj] at S e6 e5
 clear hJ
 ((try clear F); have F := S.fx)
 have hpl := (len_sum o.ls ok.count).1
 have hul := ((len_sum o.ls ok.count).2.2 num).1
 refine Wf e2 F @Odr.enc.eq_1 @zerosL.eq_1 @zerosL.eq_2 ?_
 (revert S; (try clear F); refine AL fun t h S F => ?_)
 obtain ⟨n, hn⟩ : ∃ n, (priceL o.ls).length = n := ⟨_, rfl⟩
 rw [hn] at e5 e6 S hul
 have hnn : n ≤ 200 ∧ 0 < n := by
  have := all_bound hlk
  omega
 refine Wa ?_
 refine lI (fun ρ' h' => ρ' 5 = .slice Au n cu ∧ ρ' 6 = .slice Ap n cp ∧ ρ' 53 = .slice (some ⟨t, 0, none⟩) 3 3 ∧ ρ' 54 = .int .i64 3 ∧ ∃ r : Nat, ρ' 55 = .int .i64 r ∧ r ≤ 3 ∧
  St h0 h' (cellA t [.int .i64 o.disc, .int .i64 (-1), .int .i64 o.tax, .int .i64 1, .int .i64 o.ship, .int .i64 1] 150 :: ownA zEnc 1 2 (.slice Ap n cp) (priceL o.ls) :: ownA Unt.enc 4 72 (.slice Au n cu) (unitsR o num r) :: cellA g o.enc 90 :: l)) (fun ρ' _ => 3 - (iv (ρ' 55)).toNat) ?_ ?_
 ·refine Wc e5 e6 ?_
  exact ⟨0, rfl, by omega, S⟩
 clear S F e1 e2 e16 e17 e18 e6 e5
 rintro ρ h J hJ ⟨e5, e6, e53, e54, r, e55, hr, S⟩
 refine Wc e54 e55 ?_
 refine cD (fun hlt => ?_) (fun hlt => ?_)
 case refine_2 =>
  obtain rfl : r = 3 := by omega
  refine Wb e5 ?_
  exact hK _ _ (S.p2.d1.d1.d1)
 have hr3 : r < 3 := by omega
 have hps : rdN h t (r * 2) 2 = some [.int .i64 (psum o r), .int .i64 (psgn r)] := by
  rw [st_rdN S (by simp only [l_f, l_g]; omega)]
  match r, hr3 with
  | 0, _ => rfl
  | 1, _ => rfl
  | 2, _ => rfl
 have hop := ok.okp r
 have hask := ok.ask hop
 obtain ⟨hs1, hs2, hs3⟩ := ok.sh r
 have hrl := unitsR_len ok num r
 have hrb := unitsR_bound ok num r
 have hsucc : unitsR o num (r + 1) = addS (psgn r) (shF (psum o r).toNat (priceL o.ls)) (unitsR o num r) := rfl
 have hsg := psgn_cases r
 have hpi := shF_is (psum o r).toNat (priceL o.ls)
 rw [hn] at hs1 hrl
 generalize shF (psum o r).toNat (priceL o.ls) = sh at *
 generalize unitsR o num r = U at *
 generalize psum o r = su at *
 generalize psgn r = sg at *
 refine Wd e53 e55 hps ?_
 (revert S; (try clear F); refine AL fun p h S F => ?_)
 refine Wb F ?_
 (revert S; (try clear F); refine ST fun h S F => ?_)
 refine Wc F e6 ?_
 have hsh := SharesA_ok (c := cp) (A := Ap) su (priceL o.ls) (fun h' S => S.p2.arr zEl) (by omega) S
 rw [hn] at hsh
 refine cI hsh ?_
 clear S F hsh hps
 rintro _ h (⟨hx, _⟩ | ⟨_, s, out, rfl, hI, hlo, S⟩)
 ·exact (hx hask).elim
 have := hI.unique hpi
 subst this
 clear hI hpi
 obtain ⟨As, cs, rfl⟩ := S.sl
 rw [hs1] at S ⊢
 obtain ⟨bs, rfl⟩ := S.ownAt (by omega)
 obtain ⟨bu, rfl⟩ := S.p4.ownAt (by omega)
 have hXl : (addS sg out U).length = U.length := addS_len (by omega)
 refine Wa ?_
 refine lI (fun ρ' h' => ρ' 5 = .slice (some ⟨bu, 0, none⟩) n cu ∧ ρ' 6 = ρ 6 ∧ ρ' 53 = ρ 53 ∧ ρ' 54 = ρ 54 ∧ ρ' 55 = ρ 55 ∧ ρ' 10 = .pointer (some ⟨p, 0, none⟩) ∧ ρ' 66 = .slice (some ⟨bs, 0, none⟩) n cs ∧ ρ' 67 = .int .i64 n ∧ ∃ k : Nat, ρ' 68 = .int .i64 k ∧ k ≤ n ∧
  St h0 h' (ownA Unt.enc 4 72 (.slice (some ⟨bu, 0, none⟩) n cu) ((addS sg out U).take k ++ U.drop k) :: ownA zEnc 1 2 (.slice (some ⟨bs, 0, none⟩) n cs) out :: cellA p [.int .i64 su, .int .i64 sg] 150 ::
   cellA t [.int .i64 o.disc, .int .i64 (-1), .int .i64 o.tax, .int .i64 1, .int .i64 o.ship, .int .i64 1] 150 :: ownA zEnc 1 2 (.slice Ap n cp) (priceL o.ls) :: cellA g o.enc 90 :: l)) (fun ρ' _ => n - (iv (ρ' 68)).toNat) ?_ ?_
 ·refine Wb e5 ?_
  refine ⟨0, rfl, by omega, ?_⟩
  have := S.p4
  simpa using this
 have p5 := e5
 have p6 := e6
 have p53 := e53
 have p54 := e54
 have p55 := e55
 clear S e5 e6 e53 e54 e55
 rintro ρ' h J' hJ' ⟨e5, e6, e53, e54, e55, e10, e66, e67, k, e68, hk, S⟩
 refine Wc e67 e68 ?_
 refine cD (fun hlt2 => ?_) (fun hlt2 => ?_)
 ·have hkn : k < n := by omega
  have hml := mid_len (addS sg out U) U hXl k
  have hrs := own_rd S.p1 (i := k) (l_r (by omega))
  have hru := own_part Unt.enc_len S (i := k) (j := 3) (by omega) (by omega)
  rw [mid_get _ _ hXl (by omega)] at hru
  have hrg := st_rd1 (off := 1) S.p2
  simp only [l_p, l_o] at hrg
  have hsb := hs3 _ (l_v (l := out) (n := k) (by omega))
  have hub := hrb _ (l_v (l := U) (n := k) (by omega))
  have hXk : (addS sg out U)[k]'(by omega) = { (U[k]'(by omega)) with share := (U[k]'(by omega)).share + sg * out[k]'(by omega) } := by simp only [addS, List.getElem_zipWith]
  have hset := set_mid (addS sg out U) U hXl (k := k) (by omega)
  rw [hXk] at hset
  have hmg := mid_get (addS sg out U) U hXl (k := k) (by omega)
  generalize out[k]'(by omega) = s at *
  generalize hu : U[k]'(by omega) = u at *
  simp only [Unt.enc, l_p, l_o] at hru
  have w1 : IntKind.i64.wrap (sg * s) = sg * s := by
   rcases hsg with rfl | rfl <;> exact wrap_i64 (by omega) (by omega)
  have w2 : IntKind.i64.wrap (u.share + sg * s) = u.share + sg * s := by
   rcases hsg with rfl | rfl <;> exact wrap_i64 (by omega) (by omega)
  refine Wd e66 e68 hrs ?_
  refine dE ?_
  refine Wi e5 e68 e10 hru hrg hrs w1 w2 ?_
  refine st_setPart Unt.enc_len (i := k) (j := 3) (x := { u with share := u.share + sg * s }) S (by omega) (by omega) (Nat.le_refl 4) rfl rfl (by rw [hmg]; rfl) ?_
  clear S hru hrg hrs
  intro h S
  rw [hset] at S
  refine Wb e68 ?_
  refine hJ' _ _ ?_ ?_
  ·refine Wi e5 e6 e53 e54 e55 e10 e66 e67 ?_
   exact ⟨k + 1, rfl, by omega, S⟩
  ·refine Wb e68 ?_
   omega
 ·obtain rfl : k = n := by omega
  rw [List.take_of_length_le (by omega), List.drop_of_length_le (by omega), l_am, ← hsucc] at S
  refine Wc e55 p55 ?_
  refine hJ _ _ ?_ ?_
  ·refine Wi e5 p5 e6 p6 e53 p53 e54 p54 ?_
   exact ⟨r + 1, rfl, by omega, S.d1.d1.p2.p2⟩
  ·refine Wb p55 ?_
   omega
end
end
def rdV (n : Nat) (bs : List UInt8) (bad : Bool) : Int := if bad = true ∨ bs.length < n then 0 else num (bs.take n)
def rdB (n : Nat) (bs : List UInt8) (bad : Bool) : List UInt8 := if bad = true ∨ bs.length < n then [] else bs.drop n
def rdX (n : Nat) (bs : List UInt8) (bad : Bool) : Bool := bad || decide (bs.length < n)
theorem rdV_nn (n : Nat) (bs : List UInt8) (bad : Bool) : 0 ≤ rdV n bs bad ∧ rdV n bs bad < 256 ^ n := by
 unfold rdV
 split
 ·exact ⟨Int.le_refl _, Int.pow_pos (by decide)⟩
 ·rename_i hb
  have h1 := num_lt (bs.take n)
  have h2 : (bs.take n).length = n := by simp only [not_or] at hb; simp; omega
  rw [h2] at h1
  exact ⟨num_nonneg _, h1⟩
def stp (n : Nat) (q : List UInt8 × Bool) : List UInt8 × Bool := (rdB n q.1 q.2, rdX n q.1 q.2)
def vl (n : Nat) (q : List UInt8 × Bool) : Int := rdV n q.1 q.2
def q1 (q : List UInt8 × Bool) := stp 2 q
def q2 (q : List UInt8 × Bool) := stp 1 (q1 q)
def q3 (q : List UInt8 × Bool) := stp 2 (q2 q)
def q4 (q : List UInt8 × Bool) := stp 2 (q3 q)
def q5 (q : List UInt8 × Bool) := stp 2 (q4 q)
def q6 (q : List UInt8 × Bool) := stp 2 (q5 q)
def q7 (q : List UInt8 × Bool) := stp 2 (q6 q)
def q8 (q : List UInt8 × Bool) := stp 1 (q7 q)
def q9 (q : List UInt8 × Bool) := stp 2 (q8 q)
def q10 (q : List UInt8 × Bool) := stp 1 (q9 q)
def Pol.fits (p : Pol) : Prop := (0 ≤ p.w ∧ p.w < 65536) ∧ (0 ≤ p.f0 ∧ p.f0 < 65536) ∧ (0 ≤ p.f1 ∧ p.f1 < 65536) ∧ (0 ≤ p.f2 ∧ p.f2 < 65536) ∧ (0 ≤ p.f3 ∧ p.f3 < 65536) ∧ (0 ≤ p.s0 ∧ p.s0 < 65536) ∧ (0 ≤ p.t0 ∧ p.t0 < 256) ∧ (0 ≤ p.s1 ∧ p.s1 < 65536) ∧ (0 ≤ p.t1 ∧ p.t1 < 256) ∧ (0 ≤ p.s2 ∧ p.s2 < 65536) ∧ (0 ≤ p.t2 ∧ p.t2 < 256) ∧ (0 ≤ p.s3 ∧ p.s3 < 65536) ∧ (0 ≤ p.t3 ∧ p.t3 < 256)
theorem le_num_n (l : List UInt8) (n : Nat) (h : l.length = n) : le n (num l) = l := by subst h; exact le_num l
theorem arr_none {α : Type} {enc : α → List Value} {sz : Nat} {h : Heap} {A : Option Addr} {xs : List α} (ha : Arr enc sz h A xs) : A = none → xs = [] := by
 rintro rfl
 cases xs with
 | nil => rfl
 | cons x xs => obtain ⟨b, off, hA, _⟩ := ha 0 (by simp); cases hA
section
set_option maxHeartbeats 4000000
structure KU where
 place : Int
 sku : Int
 recv : Bool
 grad : Bool
def KU.enc (x : KU) : List Value := [.int .i64 x.place, .int .i64 x.sku, .bool x.recv, .bool x.grad]
theorem KU.enc_len (x : KU) : x.enc.length = 4 := rfl
theorem KU.enc_plain (x : KU) : pC x.enc = true := rfl
def stockA (k : Nat) (K : List KU) : HP := exA fun s => starA (cellA k [s] 108) (ownA KU.enc 4 110 s K)
def placeK (K : List KU) (n : Int) : Int := if 0 ≤ n then ((K[n.toNat]?).map KU.place).getD (-1) else -1
def seenK (K : List KU) (n : Int) : Bool × Bool := if 0 ≤ n then ((K[n.toNat]?).map fun u => (u.recv, u.grad)).getD (false, false) else (false, false)
def stkOf (sk at_ : List Int) : List KU := List.zipWith (fun s p => ⟨p, s, false, false⟩) sk at_
def okAt (at_ : List Int) : Prop := ∀ p ∈ at_, 0 ≤ p ∧ p < 9
section
variable {h0 h : Heap} {l : List HP} {k : Nat} {K : List KU}
theorem St.stk : St h0 h (stockA k K :: l) ↔ ∃ s, St h0 h (cellA k [s] 108 :: ownA KU.enc 4 110 s K :: l) := by
 rw [stockA, St.ex]
 exact exists_congr fun s => St.star
theorem has_ok (n : Int) (S : St h0 h (stockA k K :: l)) : CallsH Tryz.prog 40 [.pointer (some ⟨k, 0, none⟩), .int .i64 n] h fun v h' => v = .bool (dcd (0 ≤ n ∧ n < K.length)) ∧ h' = h := by
 obtain ⟨s, S⟩ := St.stk.1 S
 obtain ⟨A, c, rfl⟩ := S.p1.sl
 ((try clear F); have F := S.fx)
 by_cases h1 : 0 ≤ n
 ·by_cases h2 : n < K.length
  ·refine EN i40.eq_1 fun K hK => ?_
   refine Wd F h1 h2 ?_
   exact hK _ _ ⟨by rw [dT ⟨h1, h2⟩], rfl⟩
  ·refine EN i40.eq_1 fun K hK => ?_
   refine Wd F h1 h2 ?_
   exact hK _ _ ⟨by rw [dF fun h => h2 h.2], rfl⟩
 ·refine EN i40.eq_1 fun K hK => ?_
  refine Wc F h1 ?_
  exact hK _ _ ⟨by rw [dF fun h => h1 h.1], rfl⟩
theorem PlaceK_ok (n : Int) (S : St h0 h (stockA k K :: l)) : CallsH Tryz.prog 21 [.pointer (some ⟨k, 0, none⟩), .int .i64 n] h fun v h' => v = .int .i64 (placeK K n) ∧ h' = h := by
 by_cases h1 : 0 ≤ n ∧ n < K.length
 ·obtain ⟨i, rfl⟩ := l_u h1.1
  have hi : i < K.length := by omega
  refine EN i21.eq_1 fun K hK => Wa ?_
  refine cI (has_ok _ S) ?_
  rintro _ _ ⟨rfl, rfl⟩
  rw [dT h1]
  obtain ⟨s, S⟩ := St.stk.1 S
  obtain ⟨A, c, rfl⟩ := S.p1.sl
  obtain ⟨b, rfl⟩ := S.p1.ownAt (by omega)
  have hp := own_part KU.enc_len S.p1 (i := i) (j := 0) hi (by omega)
  simp only [KU.enc, l_o, Nat.add_zero] at hp
  ((try clear F); have F := S.fx)
  refine Wc F hp ?_
  refine hK _ _ ⟨?_, rfl⟩
  rw [placeK, if_pos h1.1, l_ap, l_r hi]
  rfl
 ·refine EN i21.eq_1 fun K hK => Wa ?_
  refine cI (has_ok _ S) ?_
  rintro _ _ ⟨rfl, rfl⟩
  rw [dF h1]
  refine Wa ?_
  refine hK _ _ ⟨?_, rfl⟩
  rw [placeK]
  split
  ·rw [List.getElem?_eq_none (by omega)]; rfl
  ·rfl
theorem SeenK_ok (n : Int) (S : St h0 h (stockA k K :: l)) : CallsH Tryz.prog 20 [.pointer (some ⟨k, 0, none⟩), .int .i64 n] h fun v h' => v = .tuple #[.bool (seenK K n).1, .bool (seenK K n).2] ∧ h' = h := by
 by_cases h1 : 0 ≤ n ∧ n < K.length
 ·obtain ⟨i, rfl⟩ := l_u h1.1
  have hi : i < K.length := by omega
  refine EN i20.eq_1 fun K hK => Wa ?_
  refine cI (has_ok _ S) ?_
  rintro _ _ ⟨rfl, rfl⟩
  rw [dT h1]
  obtain ⟨s, S⟩ := St.stk.1 S
  obtain ⟨A, c, rfl⟩ := S.p1.sl
  obtain ⟨b, rfl⟩ := S.p1.ownAt (by omega)
  have hp := own_part KU.enc_len S.p1 (i := i) (j := 2) hi (by omega)
  have hq := own_part KU.enc_len S.p1 (i := i) (j := 3) hi (by omega)
  simp only [KU.enc, l_o, l_p] at hp hq
  ((try clear F); have F := S.fx)
  refine Wa ?_
  refine dE ?_
  refine Wd F hp hq ?_
  refine hK _ _ ⟨?_, rfl⟩
  rw [seenK, if_pos h1.1, l_ap, l_r hi]
  rfl
 ·refine EN i20.eq_1 fun K hK => Wa ?_
  refine cI (has_ok _ S) ?_
  rintro _ _ ⟨rfl, rfl⟩
  rw [dF h1]
  refine Wa ?_
  refine hK _ _ ⟨?_, rfl⟩
  rw [seenK]
  split
  ·rw [List.getElem?_eq_none (by omega)]; rfl
  ·rfl
theorem CloneKU_ok {A : Option Addr} {n c : Nat} {xs : List KU} (S : St h0 h l) (ha : Arr KU.enc 4 h A xs) (hn : n = xs.length) (hl : xs.length < 1000000000) :
  CallsH Tryz.prog 57 [.slice A n c] h fun v h' => St h0 h' (ownA KU.enc 4 110 v xs :: l) :=
 (clone_ok (T := 110) (sz := 4) (bytes := 24) i57.2 KU.enc_len (by omega) KU.enc_plain rfl ha hn (arr_none ha) (by omega) (by omega)).mono fun v h' ⟨ho, hf, _⟩ => S.ownNew hf ho
theorem CloneK_ok (S : St h0 h (stockA k K :: l)) (hl : K.length < 1000000) : CallsH Tryz.prog 32 [.pointer (some ⟨k, 0, none⟩)] h fun v h' => ∃ p, v = .pointer (some ⟨p, 0, none⟩) ∧ St h0 h' (stockA p K :: stockA k K :: l) := by
 obtain ⟨s, S⟩ := St.stk.1 S
 obtain ⟨A, c, rfl⟩ := S.p1.sl
 ((try clear F); have F := S.fx)
 refine EN i32.eq_1 fun K hK => ?_
 refine Wb F ?_
 refine cI (CloneKU_ok S (S.p1.arr KU.enc_len) rfl (by omega)) ?_
 clear S F
 intro v h S
 obtain ⟨B, d, rfl⟩ := S.sl
 refine Wa ?_
 (revert S; (try clear F); refine AL fun p h S F => ?_)
 refine Wa ?_
 exact hK _ _ ⟨p, rfl, St.stk.2 ⟨_, (St.stk.2 ⟨_, S.p2.p3.p1⟩).p1.p2.p1⟩⟩
theorem NewK_ok {A B : Option Addr} {c d : Nat} {sk at_ : List Int} (S : St h0 h l) (ha : ∀ h', St h0 h' l → Arr zEnc 1 h' A sk) (hb : ∀ h', St h0 h' l → Arr zEnc 1 h' B at_) (l1 : sk.length < 1000000) (l2 : at_.length < 1000000) :
  CallsH Tryz.prog 26 [.slice A sk.length c, .slice B at_.length d] h fun v h' => (¬ (sk.length = at_.length ∧ sk.length ≤ 200 ∧ okAt at_) ∧ v = .tuple #[.pointer none, .int .i64 1] ∧ St h0 h' l) ∨
   ((sk.length = at_.length ∧ sk.length ≤ 200 ∧ okAt at_) ∧ ∃ k, v = .tuple #[.pointer (some ⟨k, 0, none⟩), .int .i64 0] ∧ St h0 h' (stockA k (stkOf sk at_) :: l)) := by
 by_cases h1 : (sk.length : Int) = at_.length
 case neg =>
  refine EN i26.eq_1 fun K hK => ?_
  refine Wa ?_
  exact hK _ _ (.inl ⟨fun h => h1 (by omega), rfl, S⟩)
 by_cases h2 : 200 < (sk.length : Int)
 ·refine EN i26.eq_1 fun K hK => ?_
  refine Wa ?_
  exact hK _ _ (.inl ⟨fun h => by omega, rfl, S⟩)
 refine EN i26.eq_1 fun K hK => ?_
 refine Wa ?_
 (revert S; (try clear F); refine AL fun k h S F => ?_)
 have S : St h0 h (ownA KU.enc 4 110 (.slice none 0 0) [] :: _) := S.nilS
 refine Wa ?_
 refine lI (fun ρ h' => ρ 0 = .slice A sk.length c ∧ ρ 6 = .pointer (some ⟨k, 0, none⟩) ∧ ρ 21 = .slice B at_.length d ∧ ρ 22 = .int .i64 at_.length ∧ ∃ i : Nat, ρ 23 = .int .i64 i ∧ i ≤ at_.length ∧ okAt (at_.take i) ∧ ∃ (E : Option Addr) (e : Nat),
  St h0 h' (ownA KU.enc 4 110 (.slice E (stkOf (sk.take i) (at_.take i)).length e) (stkOf (sk.take i) (at_.take i)) :: cellA k [.slice E (stkOf (sk.take i) (at_.take i)).length e] 108 :: l)) (fun ρ _ => at_.length - (iv (ρ 23)).toNat) ?_ ?_
 ·refine Wa ?_
  exact ⟨0, rfl, by omega, by simp [okAt], none, 0, S⟩
 clear S F
 rintro ρ h J hJ ⟨e0, e6, e21, e22, i, e23, hi, hok, E, e, S⟩
 refine Wc e22 e23 ?_
 refine cD (fun hlt => ?_) (fun hlt => ?_)
 ·have hil : i < at_.length := by omega
  have hil2 : i < sk.length := by omega
  obtain ⟨b1, o1, rfl, q1⟩ := (hb _ S.tl.tl).at hil
  obtain ⟨b2, o2, rfl, q2⟩ := (ha _ S.tl.tl).at hil2
  have q1 := rP0 q1 (by omega)
  have q2 := rP0 q2 (by omega)
  simp only [zEnc, l_o] at q1 q2
  have hmem := l_v hil
  have hll : (stkOf (sk.take i) (at_.take i)).length = i := by
   rw [stkOf, List.length_zipWith, l_ad, l_ad]; omega
  have hs1 : stkOf (sk.take (i + 1)) (at_.take (i + 1)) = stkOf (sk.take i) (at_.take i) ++ [⟨at_[i], sk[i], false, false⟩] := by
   rw [l_t hil, l_t hil2, stkOf, List.zipWith_append (by rw [l_ad, l_ad]; omega)]
   rfl
  have htk : (0 ≤ at_[i] ∧ at_[i] < 9) → okAt (at_.take (i + 1)) := fun hx p hp => by
   rw [l_t hil] at hp
   rcases List.mem_append.1 hp with hp | hp
   ·exact hok p hp
   ·rw [l_aa] at hp; rw [hp]; exact hx
  have hbad : ¬ (0 ≤ at_[i] ∧ at_[i] < 9) → ¬ (sk.length = at_.length ∧ sk.length ≤ 200 ∧ okAt at_) := fun hn h => hn (h.2.2 _ hmem)
  have hq2 : ∀ {h' : Heap} {L : List HP}, St h0 h' (L ++ l) → rd1 h' (.pointer (some ⟨b2, o2 + i * 1, none⟩)) = some (.int .i64 sk[i]) := fun S' => by
   obtain ⟨b3, o3, hA, q3⟩ := (ha _ S'.dropL).at hil2
   cases hA
   have q3 := rP0 q3 (by omega)
   simpa only [zEnc, l_o] using q3
  generalize at_[i] = x at *
  generalize sk[i] = y at *
  by_cases c1 : x < 0
  ·refine We e21 e23 q1 c1 ?_
   exact hK _ _ (.inl ⟨hbad (by omega), rfl, S.tl.tl⟩)
  by_cases c2 : 9 ≤ x
  ·refine Wf e21 e23 q1 c1 c2 ?_
   exact hK _ _ (.inl ⟨hbad (by omega), rfl, S.tl.tl⟩)
  have hg0 := st_rd1 (off := 0) S.p1
  simp only [l_o] at hg0
  generalize stkOf (sk.take i) (at_.take i) = W at *
  have hI : (fun h' => rd1 h' (.pointer (some ⟨k, 0, none⟩)) = some (.slice E W.length e) ∧ rd1 h' (.pointer (some ⟨b2, o2 + i * 1, none⟩)) = some (.int .i64 y)) h := ⟨hg0, hq2 (L := [_, _]) S⟩
  have rx : ∀ K t, readT (fun h' => rd1 h' (.pointer (some ⟨k, 0, none⟩)) = some (.slice E W.length e) ∧ rd1 h' (.pointer (some ⟨b2, o2 + i * 1, none⟩)) = some (.int .i64 y)) (fun h' => rd1 h' (.pointer (some ⟨k, 0, none⟩))) K t = K (.slice E W.length e) := fun K t => rI (fun h' hh => hh.1) h hI
  have ry : ∀ K t, readT (fun h' => rd1 h' (.pointer (some ⟨k, 0, none⟩)) = some (.slice E W.length e) ∧ rd1 h' (.pointer (some ⟨b2, o2 + i * 1, none⟩)) = some (.int .i64 y)) (fun h' => rd1 h' (.pointer (some ⟨b2, o2 + i * 1, none⟩))) K t = K (.int .i64 y) := fun K t => rI (fun h' hh => hh.2) h hI
  simp only [Nat.mul_one] at hI rx ry hq2
  refine Wf e21 e23 q1 c1 c2 ?_
  refine dI (fun h' => rd1 h' (.pointer (some ⟨k, 0, none⟩)) = some (.slice E W.length e) ∧ rd1 h' (.pointer (some ⟨b2, o2 + i, none⟩)) = some (.int .i64 y)) hI ?_
  refine Wf e0 e6 rx ry @Nat.mul_one ?_
  (revert S; (try clear F); refine AL fun q h S F => ?_)
  refine ⟨⟨st_rd1 (off := 0) S.p2, hq2 (L := [_, _, _]) S⟩, ?_⟩
  refine Wa ?_
  refine tA1 (bytes := 24) (x := (⟨x, y, false, false⟩ : KU)) KU.enc_len (by omega) KU.enc_plain rfl rfl S (by omega) (by omega) ?_
  clear S F
  intro v h S
  rw [← hs1] at S
  obtain ⟨E', e', rfl⟩ := S.sl
  refine Wa ?_
  refine tS S.p1 (by rfl) (by rfl) (l_a rfl) ?_
  clear S
  intro h S
  replace S := S.nm
  refine Wb e23 ?_
  refine hJ _ _ ?_ ?_
  ·refine We e0 e6 e21 e22 ?_
   exact ⟨i + 1, rfl, by omega, htk (by omega), E', e', S.p1⟩
  ·refine Wb e23 ?_
   omega
 obtain rfl : i = at_.length := by omega
 have hx : sk.take at_.length = sk := by rw [← (show sk.length = at_.length by omega), l_aj]
 rw [hx, l_aj] at S
 rw [l_aj] at hok
 refine Wb e6 ?_
 exact hK _ _ (.inr ⟨⟨by omega, by omega, hok⟩, k, rfl, St.stk.2 ⟨_, S.p1⟩⟩)
end
end
section
set_option maxHeartbeats 16000000
theorem RightConfig_ok {h0 : Heap} (C : Cfg) (r : C.rd h0) (l1 : C.os.length < 1000000) (l2 : C.ss.length < 1000000) (l3 : C.ps.length < 1000000) (l4 : ∀ o ∈ C.os, o.ls.length < 1000000) :
  CallsH Tryz.prog 12 [.agg C.enc.toArray] h0 fun v h' => v = .bool (dcd (okCfg C)) ∧ Fr h0 h' [] := by
 have S := St.nil h0
 have r' : ∀ {h' : Heap} {l : List HP}, St h0 h' l → C.rd h' := fun S => r.fr S.fr
 refine EN i12.eq_1 fun K hK => Wa ?_
 (revert S; (try clear F); refine AL fun g h S F => ?_)
 refine Wc F @Cfg.enc.eq_1 ?_
 refine cI (RightTable_ok (r' S).ps (by omega)) ?_
 rintro _ h ⟨rfl, hf⟩
 have S := S.frame hf
 by_cases d1 : RightT C.ps
 case neg =>
  rw [dF d1]
  refine Wa ?_
  exact hK _ _ ⟨by rw [dF (fun h => d1 h.1)], S.fr⟩
 rw [dT d1]
 ((try clear F); have F := S.fx)
 by_cases d2 : 20 < (C.os.length : Int)
 ·refine Wd F @Cfg.enc.eq_1 d2 ?_
  exact hK _ _ ⟨by rw [dF (fun h => by have := h.2.1; omega)], S.fr⟩
 by_cases d3 : 20 < (C.ss.length : Int)
 ·refine We F @Cfg.enc.eq_1 d2 d3 ?_
  exact hK _ _ ⟨by rw [dF (fun h => by have := h.2.2.1; omega)], S.fr⟩
 refine We F @Cfg.enc.eq_1 d2 d3 ?_
 refine lI (fun ρ h' => ρ 1 = .pointer (some ⟨g, 0, none⟩) ∧ ρ 30 = .int .i64 C.os.length ∧ ∃ i : Nat, ρ 31 = .int .i64 i ∧ i ≤ C.os.length ∧ (∀ o ∈ C.os.take i, okOrder C.ps.length o) ∧ ρ 3 = .int .i64 (ordSum (C.os.take i)) ∧
  St h0 h' [cellA g C.enc 26]) (fun ρ _ => C.os.length - (iv (ρ 31)).toNat) ?_ ?_
 ·refine Wa ?_
  exact ⟨0, rfl, by omega, by simp, rfl, S⟩
 clear S F
 rintro ρ h J hJ ⟨e1, e30, i, e31, hi, hok, e3, S⟩
 refine Wc e30 e31 ?_
 refine cD (fun hlt => ?_) (fun hlt => ?_)
 ·have hil : i < C.os.length := by omega
  obtain ⟨b, off, hA, hr1⟩ := (r' S).os.at hil
  have hmem := l_v hil
  have hlb := ord_bound hok
  have hlen : (C.os.take i).length ≤ 20 := by rw [l_ad]; omega
  have hs1 := ordSum_snoc hil
  have hll := l4 _ hmem
  have hrl := fun {h'} {l'} (S : St h0 h' l') => (r' S).ls _ hmem
  have hbad : ¬ okOrder C.ps.length C.os[i] → ¬ okCfg C := fun hn h => hn (h.2.2.2.1 _ hmem)
  have htk : okOrder C.ps.length C.os[i] → ∀ o ∈ C.os.take (i + 1), okOrder C.ps.length o := fun hx o ho => by
   rw [l_t hil] at ho
   rcases List.mem_append.1 ho with ho | ho
   ·exact hok o ho
   ·rw [l_aa] at ho; rw [ho]; exact hx
  generalize C.os[i] = o at *
  ((try clear F); have F := S.fx)
  refine Wg e1 e31 F @Cfg.enc.eq_1 hA hr1 ?_
  (revert S; (try clear F); refine AL fun q h S F => ?_)
  refine Wc F @Odr.enc.eq_1 ?_
  (revert S; (try clear F); refine ST fun h S F => ?_)
  by_cases d1 : o.day < 0
  ·refine Wc F d1 ?_
   exact hK _ _ ⟨by rw [dF (hbad fun h => by have := h.1.1.1; omega)], S.fr⟩
  by_cases d2 : 100000 < o.day
  ·refine Wd F d1 d2 ?_
   exact hK _ _ ⟨by rw [dF (hbad fun h => by have := h.1.1.2; omega)], S.fr⟩
  by_cases d3 : (o.ls.length : Int) < 1
  ·refine We F d1 d2 d3 ?_
   exact hK _ _ ⟨by rw [dF (hbad fun h => by have := h.1.2.1.1; omega)], S.fr⟩
  by_cases d4 : 8 < (o.ls.length : Int)
  ·refine Wf F d1 d2 d3 d4 ?_
   exact hK _ _ ⟨by rw [dF (hbad fun h => by have := h.1.2.1.2; omega)], S.fr⟩
  refine Wf F d1 d2 d3 d4 ?_
  refine cI (rprice_ok _ _) ?_
  rintro _ _ ⟨rfl, rfl⟩
  by_cases d5 : okPrice o.disc
  case neg =>
   rw [dF d5]
   refine Wa ?_
   exact hK _ _ ⟨by rw [dF (hbad fun h => d5 h.1.2.2.1)], S.fr⟩
  rw [dT d5]
  refine Wb F ?_
  refine cI (rprice_ok _ _) ?_
  rintro _ _ ⟨rfl, rfl⟩
  by_cases d6 : okPrice o.tax
  case neg =>
   rw [dF d6]
   refine Wa ?_
   exact hK _ _ ⟨by rw [dF (hbad fun h => d6 h.1.2.2.2.1)], S.fr⟩
  rw [dT d6]
  refine Wb F ?_
  refine cI (rprice_ok _ _) ?_
  rintro _ _ ⟨rfl, rfl⟩
  by_cases d7 : okPrice o.ship
  case neg =>
   rw [dF d7]
   refine Wa ?_
   exact hK _ _ ⟨by rw [dF (hbad fun h => d7 h.1.2.2.2.2)], S.fr⟩
  rw [dT d7]
  have hhead : okHead o := ⟨⟨by omega, by omega⟩, ⟨by omega, by omega⟩, d5, d6, d7⟩
  refine Wb F ?_
  refine lI (fun ρ' h' => ρ' 1 = .pointer (some ⟨g, 0, none⟩) ∧ ρ' 30 = .int .i64 C.os.length ∧ ρ' 31 = .int .i64 i ∧ ρ' 5 = .pointer (some ⟨q, 0, none⟩) ∧ ρ' 79 = .int .i64 o.ls.length ∧ ∃ k : Nat, ρ' 80 = .int .i64 k ∧ k ≤ o.ls.length ∧ (∀ l ∈ o.ls.take k, okLine C.ps.length l) ∧ ρ' 3 = .int .i64 (ordSum (C.os.take i) + cntOf (o.ls.take k)) ∧ ρ' 6 = .int .i64 (allOf (o.ls.take k)) ∧
   St h0 h' [cellA q o.enc 90, cellA g C.enc 26]) (fun ρ' _ => o.ls.length - (iv (ρ' 80)).toNat) ?_ ?_
  ·refine We e1 e30 e31 e3 ?_
   exact ⟨0, rfl, by omega, by simp, by simp [cntOf], rfl, S⟩
  have p31 := e31
  clear S F e1 e30 e31 e3 hr1
  rintro ρ' h J' hJ' ⟨e1, e30, e31, e5, e79, k, e80, hk, hlk, e3, e6, S⟩
  refine Wc e79 e80 ?_
  refine cD (fun hlt2 => ?_) (fun hlt2 => ?_)
  ·have hkl : k < o.ls.length := by omega
   obtain ⟨b2, off2, hA2, hr2⟩ := (hrl S).at hkl
   have hlb2 := all_bound hlk
   have hlen2 : (o.ls.take k).length ≤ 8 := by rw [l_ad]; omega
   have hm2 := l_v hkl
   have hs3 := allOf_snoc hkl
   have hs4 := cntOf_snoc hkl
   have hbad2 : ¬ okLine C.ps.length o.ls[k] → ¬ okCfg C := fun hn => hbad fun h => hn (h.2.1 _ hm2)
   have htk2 : okLine C.ps.length o.ls[k] → ∀ l ∈ o.ls.take (k + 1), okLine C.ps.length l := fun hx l hl => by
    rw [l_t hkl] at hl
    rcases List.mem_append.1 hl with hl | hl
    ·exact hlk l hl
    ·rw [l_aa] at hl; rw [hl]; exact hx
   generalize o.ls[k] = x at *
   ((try clear F); have F := S.fx)
   refine Wg e5 e80 F @Odr.enc.eq_1 hA2 hr2 ?_
   (revert S; (try clear F); refine AL fun p h S F => ?_)
   refine Wc F @Lin.enc.eq_1 ?_
   (revert S; (try clear F); refine ST fun h S F => ?_)
   by_cases c1 : x.sku < 1
   ·refine Wc F c1 ?_
    exact hK _ _ ⟨by rw [dF (hbad2 fun h => by have := h.1.1.1; omega)], S.fr⟩
   by_cases c2 : 1000 < x.sku
   ·refine Wd F c1 c2 ?_
    exact hK _ _ ⟨by rw [dF (hbad2 fun h => by have := h.1.1.2; omega)], S.fr⟩
   by_cases c3 : x.cat < 0
   ·refine We F c1 c2 c3 ?_
    exact hK _ _ ⟨by rw [dF (hbad2 fun h => by have := h.2.1; omega)], S.fr⟩
   by_cases c4 : (C.ps.length : Int) ≤ x.cat
   ·refine Wh F c1 c2 c3 e1 @Cfg.enc.eq_1 c4 ?_
    exact hK _ _ ⟨by rw [dF (hbad2 fun h => by have := h.2.2; omega)], S.fr⟩
   refine Wh F c1 c2 c3 e1 @Cfg.enc.eq_1 c4 ?_
   refine cI (rprice_ok _ _) ?_
   rintro _ _ ⟨rfl, rfl⟩
   by_cases c5 : okPrice x.price
   case neg =>
    rw [dF c5]
    refine Wa ?_
    exact hK _ _ ⟨by rw [dF (hbad2 fun h => c5 h.1.2.1)], S.fr⟩
   rw [dT c5]
   by_cases c6 : x.count < 1
   ·refine Wc F c6 ?_
    exact hK _ _ ⟨by rw [dF (hbad2 fun h => by have := h.1.2.2.1; omega)], S.fr⟩
   by_cases c7 : 50 < x.count
   ·refine Wd F c6 c7 ?_
    exact hK _ _ ⟨by rw [dF (hbad2 fun h => by have := h.1.2.2.2; omega)], S.fr⟩
   have hx : okLine C.ps.length x := ⟨⟨⟨by omega, by omega⟩, c5, by omega, by omega⟩, by omega, by omega⟩
   have hxb := line_bound hx
   have w1 : IntKind.i64.wrap (ordSum (C.os.take i) + cntOf (o.ls.take k) + x.count) = ordSum (C.os.take i) + cntOf (o.ls.take k) + x.count := wrap_i64 (by omega) (by omega)
   have w2 : IntKind.i64.wrap (x.price * x.count) = x.price * x.count := wrap_i64 (by omega) (by omega)
   have w3 : IntKind.i64.wrap (allOf (o.ls.take k) + x.price * x.count) = allOf (o.ls.take k) + x.price * x.count := wrap_i64 (by omega) (by omega)
   refine Wi F c6 c7 e3 e6 w1 w2 (Pc w3 e80) ?_
   refine hJ' _ _ ?_ ?_
   ·refine Wf e1 e30 e31 e5 e79 ?_
    exact ⟨k + 1, rfl, by omega, htk2 hx, by rw [hs4, Int.add_assoc], by rw [hs3], S.tl⟩
   ·refine Wb e80 ?_
    omega
  ·obtain rfl : k = o.ls.length := by omega
   rw [l_aj] at hlk e3 e6
   ((try clear F); have F := S.fx)
   by_cases c8 : allOf o.ls < o.disc
   ·refine Wf e5 F @Odr.enc.eq_1 e6 c8 ?_
    exact hK _ _ ⟨by rw [dF (hbad fun h => by have := h.2.2; omega)], S.fr⟩
   have hoo : okOrder C.ps.length o := ⟨hhead, hlk, by omega⟩
   refine Wg e5 F @Odr.enc.eq_1 e6 c8 e31 ?_
   refine hJ _ _ ?_ ?_
   ·refine Wc e1 e30 ?_
    exact ⟨i + 1, rfl, by omega, htk hoo, by rw [hs1]; exact e3, S.tl⟩
   ·refine Wb p31 ?_
    omega
 obtain rfl : i = C.os.length := by omega
 rw [l_aj] at hok e3
 clear hJ
 have hob := ord_bound hok
 ((try clear F); have F := S.fx)
 refine Wd e1 F @Cfg.enc.eq_1 ?_
 refine lI (fun ρ h' => ρ 1 = .pointer (some ⟨g, 0, none⟩) ∧ ρ 144 = .int .i64 C.ss.length ∧ ∃ i : Nat, ρ 145 = .int .i64 i ∧ i ≤ C.ss.length ∧ okSups (C.ss.take i) ∧ ρ 3 = .int .i64 (ordSum C.os + supSum (C.ss.take i)) ∧
  St h0 h' [cellA g C.enc 26]) (fun ρ _ => C.ss.length - (iv (ρ 145)).toNat) ?_ ?_
 ·refine Wc e1 e3 ?_
  exact ⟨0, rfl, by omega, ⟨by simp, by simp⟩, by simp [supSum], S⟩
 clear S F e1 e30 e31 e3
 rintro ρ h J hJ ⟨e1, e144, i, e145, hi, hsu, e3, S⟩
 refine Wc e144 e145 ?_
 refine cD (fun hlt => ?_) (fun hlt => ?_)
 ·have hil : i < C.ss.length := by omega
  obtain ⟨b, off, hA, hr1⟩ := (r' S).ss.at hil
  have hsb := sup_bound hsu.1
  have hlen : (C.ss.take i).length ≤ 20 := by rw [l_ad]; omega
  have hs1 := supSum_snoc hil
  have hno := fun h : okCfg C => sups_no hil h.2.2.2.2.1
  have hsn := sups_snoc hil hsu
  generalize C.ss[i] = x at *
  ((try clear F); have F := S.fx)
  refine Wg e1 e145 F @Cfg.enc.eq_1 hA hr1 ?_
  (revert S; (try clear F); refine AL fun q h S F => ?_)
  refine Wc F @Sup.enc.eq_1 ?_
  (revert S; (try clear F); refine ST fun h S F => ?_)
  by_cases c1 : x.sku < 1
  ·refine Wc F c1 ?_
   exact hK _ _ ⟨by rw [dF (fun h => by have := (hno h).1.1.1; omega)], S.fr⟩
  by_cases c2 : 1000 < x.sku
  ·refine Wd F c1 c2 ?_
   exact hK _ _ ⟨by rw [dF (fun h => by have := (hno h).1.1.2; omega)], S.fr⟩
  refine Wd F c1 c2 ?_
  refine cI (rprice_ok _ _) ?_
  rintro _ _ ⟨rfl, rfl⟩
  by_cases c5 : okPrice x.price
  case neg =>
   rw [dF c5]
   refine Wa ?_
   exact hK _ _ ⟨by rw [dF (fun h => c5 (hno h).1.2.1)], S.fr⟩
  rw [dT c5]
  by_cases c6 : x.count < 1
  ·refine Wc F c6 ?_
   exact hK _ _ ⟨by rw [dF (fun h => by have := (hno h).1.2.2.1; omega)], S.fr⟩
  by_cases c7 : 50 < x.count
  ·refine Wd F c6 c7 ?_
   exact hK _ _ ⟨by rw [dF (fun h => by have := (hno h).1.2.2.2; omega)], S.fr⟩
  have hx : okSup x := ⟨⟨by omega, by omega⟩, c5, by omega, by omega⟩
  refine Wd F c6 c7 ?_
  refine lI (fun ρ' h' => ρ' 1 = .pointer (some ⟨g, 0, none⟩) ∧ ρ' 144 = .int .i64 C.ss.length ∧ ρ' 145 = .int .i64 i ∧ ρ' 3 = ρ 3 ∧ ρ' 10 = .pointer (some ⟨q, 0, none⟩) ∧ ρ' 177 = .int .i64 i ∧ ∃ k : Nat, ρ' 178 = .int .i64 k ∧ k ≤ i ∧ (∀ y ∈ C.ss.take k, y.sku ≠ x.sku) ∧
   St h0 h' [cellA q x.enc 95, cellA g C.enc 26]) (fun ρ' _ => i - (iv (ρ' 178)).toNat) ?_ ?_
  ·refine Wd e1 e144 e145 ?_
   exact ⟨0, rfl, by omega, by simp, S⟩
  have p145 := e145
  clear S F e1 e144 e145 hr1
  rintro ρ' h J' hJ' ⟨e1, e144, e145, q3, e10, e177, k, e178, hk, hne, S⟩
  refine Wc e177 e178 ?_
  refine cD (fun hlt2 => ?_) (fun hlt2 => ?_)
  ·have hki : k < i := by omega
   have hkl : k < C.ss.length := by omega
   obtain ⟨b2, off2, hA2, hr2⟩ := (r' S).ss.at hkl
   have hm2 : C.ss[k] ∈ C.ss.take i := by
    have := l_v (l := C.ss.take i) (n := k) (by rw [l_ad]; omega)
    rw [List.getElem_take] at this
    exact this
   have htk2 : ¬ (C.ss[k]).sku = x.sku → ∀ y ∈ C.ss.take (k + 1), y.sku ≠ x.sku := fun hx y hy => by
    rw [l_t hkl] at hy
    rcases List.mem_append.1 hy with hy | hy
    ·exact hne y hy
    ·rw [l_aa] at hy; rw [hy]; exact hx
   generalize C.ss[k] = y at *
   have hr2 := rP0 hr2 (by decide)
   simp only [Sup.enc, l_o] at hr2
   ((try clear F); have F := S.fx)
   by_cases c8 : y.sku = x.sku
   ·refine Wa ?_
    refine dE ?_
    refine Wi e1 e178 F @Cfg.enc.eq_1 hA2 hr2 @Sup.enc.eq_1 (Pc e10 c8) ?_
    exact hK _ _ ⟨by rw [dF (fun h => (hno h).2 ⟨y, hm2, c8⟩)], S.fr⟩
   ·refine Wa ?_
    refine dE ?_
    refine Wi e1 e178 F @Cfg.enc.eq_1 hA2 hr2 @Sup.enc.eq_1 (Pc e10 c8) ?_
    refine hJ' _ _ ?_ ?_
    ·refine Wg e1 e144 e145 q3 e10 e177 ?_
     exact ⟨k + 1, rfl, by omega, htk2 c8, S⟩
    ·refine Wb e178 ?_
     omega
  ·obtain rfl : k = i := by omega
   ((try clear F); have F := S.fx)
   have w1 : IntKind.i64.wrap (ordSum C.os + supSum (C.ss.take k) + x.count) = ordSum C.os + supSum (C.ss.take k) + x.count := wrap_i64 (by omega) (by omega)
   refine Wh q3 e3 e10 F @Sup.enc.eq_1 w1 e145 ?_
   refine hJ _ _ ?_ ?_
   ·refine Wc e1 e144 ?_
    exact ⟨k + 1, rfl, by omega, hsn hx (by rintro ⟨y, hy, e⟩; exact hne y hy e), by rw [hs1, Int.add_assoc], S.tl⟩
   ·refine Wb p145 ?_
    omega
 obtain rfl : i = C.ss.length := by omega
 rw [l_aj] at hsu e3
 refine Wb e3 ?_
 exact hK _ _ ⟨congrArg Value.bool (congrArg dcd (propext ⟨fun h => ⟨d1, by omega, by omega, hok, hsu, h⟩, fun h => h.2.2.2.2.2⟩)), S.fr⟩
end
end Go.Proofs.YtcgbhcgfdcfmaaaGreat.MX
