import Derived.Test.YtcgbhcgfdcfmaaaGreatK18
import Derived.Test.YtcgbhcgfdcfmaaaGreatK17
namespace Go.Proofs.YtcgbhcgfdcfmaaaGreat.MX
open Go Go.Proofs
set_option linter.unusedSimpArgs false
set_option linter.unusedVariables false
section
set_option maxHeartbeats 8000000
theorem a2S (i : Int) {ls : List Lin} {k : Nat} (hk : k < ls.length) : z9 i (ls.take (k + 1)) = z9 i (ls.take k) ++ b6G i ls[k] := by
 rw [l_t hk, z9, a0V]
 simp [z9]
theorem a3W {ls : List Lin} {k : Nat} (hk : k < ls.length) : j9 (ls.take (k + 1)) = j9 (ls.take k) ++ a8F ls[k] := by
 rw [l_t hk, j9, a0V]
 simp [j9]
theorem a5K {k : Int} {ls : List Lin} (h : ∀ l ∈ ls, F7 k l) (i : Nat) : B7 (ls.take i) ≤ B7 ls := by
 have h1 := G3 (k := k) (ls := ls.drop i) fun l hl => h l (List.mem_of_mem_drop hl)
 have : B7 ls = B7 (ls.take i) + B7 (ls.drop i) := by
  conv => lhs; rw [← C6 i ls]
  rw [B7, N5, a0o]; rfl
 omega
section
variable {h0 h : c9} {l : List HP}
theorem E6 {α : Type} {enc : α → List Value} {sz T b n c : Nat} {D : List α} (hsz : ∀ x, (enc x).length = sz) (S : St h0 h (f9 enc sz T (.slice (some ⟨b, 0, none⟩) n c) D :: l)) {i j : Nat} (hi : i < D.length) (hj : j < sz) : rd1 h (.pointer (some ⟨b, i * sz + j, none⟩)) = (enc D[i])[j]? := by
 obtain ⟨b', o', hA, hr⟩ := S.arr hsz i hi
 cases hA
 have := rP hr j hj
 simpa using this
theorem b4M (o : Odr) (num : Int) (ok : OkO o) (ha : ∀ h', St h0 h' l → Arr Lin.enc 4 h' o.A o.ls) (S : St h0 h l) :
  d8 Tryz.prog 42 [.agg o.enc.toArray, .int .i64 num] h fun v h' => St h0 h' (f9 Unt.enc 4 72 v (M9 o num) :: l) := by
 obtain ⟨kk, hlk⟩ := ok.ls
 have hn0 := ok.n0
 have hn1 := ok.n1
 have hcnt := ok.cnt
 refine EN i42.eq_1 fun K hK => Wa ?_
 (revert S; (try clear F); refine AL fun g h S F => ?_)
 have S : St h0 h (f9 j4 1 2 (.slice none 0 0) [] :: f9 Unt.enc 4 72 (.slice none 0 0) [] :: f8 g o.enc 90 :: l) := S.nilS.nilS
 refine Wc F @Odr.enc.eq_1 ?_
 refine lI (fun ρ h' => ρ 1 = .int .i64 num ∧ ρ 2 = .pointer (some ⟨g, 0, none⟩) ∧ ρ 16 = .slice o.A o.ls.length o.c ∧ ρ 17 = .int .i64 o.ls.length ∧ ∃ i : Nat, ρ 18 = .int .i64 i ∧ i ≤ o.ls.length ∧
  ∃ (Ap Au : Option Addr) (cp cu : Nat), ρ 6 = .slice Ap (j9 (o.ls.take i)).length cp ∧ ρ 5 = .slice Au (j9 (o.ls.take i)).length cu ∧
  St h0 h' (f9 j4 1 2 (.slice Ap (j9 (o.ls.take i)).length cp) (j9 (o.ls.take i)) :: f9 Unt.enc 4 72 (.slice Au (j9 (o.ls.take i)).length cu) (z9 num (o.ls.take i)) :: f8 g o.enc 90 :: l)) (fun ρ _ => o.ls.length - (iv (ρ 18)).toNat) ?_ ?_
 ·refine Wa ?_
  exact ⟨0, rfl, by omega, none, none, 0, 0, rfl, rfl, S⟩
 clear S F
 rintro ρ h J hJ ⟨e1, e2, e16, e17, i, e18, hi, Ap, Au, cp, cu, e6, e5, S⟩
 refine Wc e17 e18 ?_
 refine cD (fun hlt => ?_) (fun hlt => ?_)
 ·have hil : i < o.ls.length := by omega
  obtain ⟨b, off, hA, hr1⟩ := (ha h S.tl.tl.tl).at hil
  have hs1 := a2S num hil
  have hs2 := a3W hil
  have hct := a5K hlk (i + 1)
  have hc1 := a0u hil
  have hpl := (G5 (o.ls.take i) fun x hx => ok.count x (a0S hx)).1
  have hul := ((G5 (o.ls.take i) fun x hx => ok.count x (a0S hx)).2.2 num).1
  have hx := hlk _ (l_v hil)
  generalize o.ls[i] = x at *
  obtain ⟨⟨_, ⟨hp0, hp1⟩, hx0, hx1⟩, _⟩ := hx
  generalize hP : j9 (o.ls.take i) = P at *
  generalize hU : z9 num (o.ls.take i) = U at *
  refine We e16 e18 hA hr1 ?_
  (revert S; (try clear F); refine AL fun q h S F => ?_)
  refine Wc F @Lin.enc.eq_1 ?_
  (revert S; (try clear F); refine ST fun h S F => ?_)
  refine Wb F ?_
  have hadd : ∀ j : Nat, j ≤ x.count.toNat → (P ++ List.replicate j x.price).length ≤ 200 := fun j hj => by rw [l_m, C1]; omega
  refine lI (fun ρ' h' => ρ' 1 = .int .i64 num ∧ ρ' 2 = .pointer (some ⟨g, 0, none⟩) ∧ ρ' 16 = .slice o.A o.ls.length o.c ∧ ρ' 17 = .int .i64 o.ls.length ∧ ρ' 18 = .int .i64 i ∧ ρ' 8 = .pointer (some ⟨q, 0, none⟩) ∧ ρ' 23 = .int .i64 x.count ∧ ∃ j : Nat, ρ' 24 = .int .i64 j ∧ j ≤ x.count.toNat ∧
   ∃ (Ap Au : Option Addr) (cp cu : Nat), ρ' 6 = .slice Ap (P ++ List.replicate j x.price).length cp ∧ ρ' 5 = .slice Au (P ++ List.replicate j x.price).length cu ∧
   St h0 h' (f9 j4 1 2 (.slice Ap (P ++ List.replicate j x.price).length cp) (P ++ List.replicate j x.price) :: f9 Unt.enc 4 72 (.slice Au (P ++ List.replicate j x.price).length cu) (U ++ List.replicate j ⟨num, x.sku, x.cat, x.price⟩) :: f8 q x.enc 93 :: f8 g o.enc 90 :: l)) (fun ρ' _ => x.count.toNat - (iv (ρ' 24)).toNat) ?_ ?_
  ·refine Wh e1 e2 e16 e17 e18 e5 e6 ?_
   exact ⟨0, rfl, by omega, Ap, Au, cp, cu, by simp, by simp, by simp only [List.replicate_zero, C4]; exact S.p2.p2⟩
  have p18 := e18
  clear S F e1 e2 e16 e17 e18 e6 e5 hr1
  rintro ρ' h J' hJ' ⟨e1, e2, e16, e17, e18, e8, e23, j, e24, hj, Ap, Au, cp, cu, e6, e5, S⟩
  refine Wc e23 e24 ?_
  refine cD (fun hlt2 => ?_) (fun hlt2 => ?_)
  ·have hjl : j < x.count.toNat := by omega
   have hl1 := hadd (j + 1) (by omega)
   have hl0 := hadd j (by omega)
   have er1 : P ++ List.replicate j x.price ++ [x.price] = P ++ List.replicate (j + 1) x.price := by rw [l_q, ← List.replicate_succ']
   have er2 : U ++ List.replicate j (⟨num, x.sku, x.cat, x.price⟩ : Unt) ++ [⟨num, x.sku, x.cat, x.price⟩] = U ++ List.replicate (j + 1) ⟨num, x.sku, x.cat, x.price⟩ := by rw [l_q, ← List.replicate_succ']
   have hll : (U ++ List.replicate j (⟨num, x.sku, x.cat, x.price⟩ : Unt)).length = (P ++ List.replicate j x.price).length := by rw [l_m, l_m, C1, C1]; omega
   have hll2 : (P ++ List.replicate j x.price).length + 1 = (P ++ List.replicate (j + 1) x.price).length := by rw [l_m, l_m, C1, C1]; omega
   ((try clear F); have F := S.fx)
   refine Wf e1 e8 F @Lin.enc.eq_1 e5 ?_
   (revert S; (try clear F); refine AL fun r1 h S F => ?_)
   refine Wa ?_
   refine tA1 (bytes := 32) (x := (⟨num, x.sku, x.cat, x.price⟩ : Unt)) Unt.enc_len (by omega) Unt.enc_plain rfl rfl S.p2.p1 (by omega) (by omega) ?_
   clear S F
   intro v h S
   rw [er2] at S
   obtain ⟨Au, cu, rfl⟩ := S.sl
   rw [show (U ++ List.replicate (j + 1) (⟨num, x.sku, x.cat, x.price⟩ : Unt)).length = (P ++ List.replicate (j + 1) x.price).length by rw [← hll2, ← hll, ← er2, l_m]; rfl] at S ⊢
   ((try clear F); have F := S.fx)
   refine We e6 e8 F @Lin.enc.eq_1 ?_
   (revert S; (try clear F); refine AL fun r2 h S F => ?_)
   refine Wa ?_
   refine tA1 (bytes := 8) (x := x.price) zEl (by omega) zEp rfl rfl S.p2.p1 (by omega) (by omega) ?_
   clear S F
   intro v h S
   rw [er1] at S
   obtain ⟨Ap, cp, rfl⟩ := S.sl
   refine Wb e24 ?_
   refine hJ' _ _ ?_ ?_
   ·refine Wh e1 e2 e16 e17 e18 e8 e23 ?_
    exact ⟨j + 1, rfl, by omega, Ap, Au, cp, cu, rfl, rfl, S⟩
   ·refine Wb e24 ?_
    omega
  ·obtain rfl : j = x.count.toNat := by omega
   refine Wb e18 ?_
   refine hJ _ _ ?_ ?_
   ·refine Wf e1 e2 e16 e17 hA ?_
    exact ⟨i + 1, rfl, by omega, Ap, Au, cp, cu, by rw [e6, hs2]; rfl, by rw [e5, hs2]; rfl, by rw [hs1, hs2]; exact S.p2.tl⟩
   ·refine Wb p18 ?_
    omega
 obtain rfl : i = o.ls.length := by omega
 rw [E8] at S e6 e5
 clear hJ
 ((try clear F); have F := S.fx)
 have hpl := (G5 o.ls ok.count).1
 have hul := ((G5 o.ls ok.count).2.2 num).1
 refine Wf e2 F @Odr.enc.eq_1 @l5.eq_1 @l5.eq_2 ?_
 (revert S; (try clear F); refine AL fun t h S F => ?_)
 obtain ⟨n, hn⟩ : ∃ n, (j9 o.ls).length = n := ⟨_, rfl⟩
 rw [hn] at e5 e6 S hul
 have hnn : n ≤ 200 ∧ 0 < n := by
  have := G3 hlk
  omega
 refine Wa ?_
 refine lI (fun ρ' h' => ρ' 5 = .slice Au n cu ∧ ρ' 6 = .slice Ap n cp ∧ ρ' 53 = .slice (some ⟨t, 0, none⟩) 3 3 ∧ ρ' 54 = .int .i64 3 ∧ ∃ r : Nat, ρ' 55 = .int .i64 r ∧ r ≤ 3 ∧
  St h0 h' (f8 t [.int .i64 o.disc, .int .i64 (-1), .int .i64 o.tax, .int .i64 1, .int .i64 o.ship, .int .i64 1] 150 :: f9 j4 1 2 (.slice Ap n cp) (j9 o.ls) :: f9 Unt.enc 4 72 (.slice Au n cu) (K9 o num r) :: f8 g o.enc 90 :: l)) (fun ρ' _ => 3 - (iv (ρ' 55)).toNat) ?_ ?_
 ·refine Wc e5 e6 ?_
  exact ⟨0, rfl, by omega, S⟩
 clear S F e1 e2 e16 e17 e18 e6 e5
 rintro ρ h J hJ ⟨e5, e6, e53, e54, r, e55, hr, S⟩
 refine Wc e54 e55 ?_
 refine cD (fun hlt => ?_) (fun hlt => ?_)
 case refine_2 =>
  obtain rfl : r = 3 := by omega
  refine Wb e5 ?_
  exact hK _ _ (S.p2.d1.d1.d1)
 have hr3 : r < 3 := by omega
 have hps : rdN h t (r * 2) 2 = some [.int .i64 (a1q o r), .int .i64 (a6Z r)] := by
  rw [J3 S (by simp only [l_f, l_g]; omega)]
  match r, hr3 with
  | 0, _ => rfl
  | 1, _ => rfl
  | 2, _ => rfl
 have hop := ok.okp r
 have hask := ok.ask hop
 obtain ⟨hs1, hs2, hs3⟩ := ok.sh r
 have hrl := a0p ok num r
 have hrb := a0H ok num r
 have hsucc : K9 o num (r + 1) = a1s (a6Z r) (shF (a1q o r).toNat (j9 o.ls)) (K9 o num r) := rfl
 have hsg := a4N r
 have hpi := a3Q (a1q o r).toNat (j9 o.ls)
 rw [hn] at hs1 hrl
 generalize shF (a1q o r).toNat (j9 o.ls) = sh at *
 generalize K9 o num r = U at *
 generalize a1q o r = su at *
 generalize a6Z r = sg at *
 refine Wd e53 e55 hps ?_
 (revert S; (try clear F); refine AL fun p h S F => ?_)
 refine Wb F ?_
 (revert S; (try clear F); refine ST fun h S F => ?_)
 refine Wc F e6 ?_
 have hsh := b0o (c := cp) (A := Ap) su (j9 o.ls) (fun h' S => S.p2.arr zEl) (by omega) S
 rw [hn] at hsh
 refine cI hsh ?_
 clear S F hsh hps
 rintro _ h (⟨hx, _⟩ | ⟨_, s, out, rfl, hI, hlo, S⟩)
 ·exact (hx hask).elim
 have := hI.unique hpi
 subst this
 clear hI hpi
 obtain ⟨As, cs, rfl⟩ := S.sl
 rw [hs1] at S ⊢
 obtain ⟨bs, rfl⟩ := S.ownAt (by omega)
 obtain ⟨bu, rfl⟩ := S.p4.ownAt (by omega)
 have hXl : (a1s sg out U).length = U.length := a9n (by omega)
 refine Wa ?_
 refine lI (fun ρ' h' => ρ' 5 = .slice (some ⟨bu, 0, none⟩) n cu ∧ ρ' 6 = ρ 6 ∧ ρ' 53 = ρ 53 ∧ ρ' 54 = ρ 54 ∧ ρ' 55 = ρ 55 ∧ ρ' 10 = .pointer (some ⟨p, 0, none⟩) ∧ ρ' 66 = .slice (some ⟨bs, 0, none⟩) n cs ∧ ρ' 67 = .int .i64 n ∧ ∃ k : Nat, ρ' 68 = .int .i64 k ∧ k ≤ n ∧
  St h0 h' (f9 Unt.enc 4 72 (.slice (some ⟨bu, 0, none⟩) n cu) ((a1s sg out U).take k ++ U.drop k) :: f9 j4 1 2 (.slice (some ⟨bs, 0, none⟩) n cs) out :: f8 p [.int .i64 su, .int .i64 sg] 150 ::
   f8 t [.int .i64 o.disc, .int .i64 (-1), .int .i64 o.tax, .int .i64 1, .int .i64 o.ship, .int .i64 1] 150 :: f9 j4 1 2 (.slice Ap n cp) (j9 o.ls) :: f8 g o.enc 90 :: l)) (fun ρ' _ => n - (iv (ρ' 68)).toNat) ?_ ?_
 ·refine Wb e5 ?_
  refine ⟨0, rfl, by omega, ?_⟩
  have := S.p4
  simpa using this
 have p5 := e5
 have p6 := e6
 have p53 := e53
 have p54 := e54
 have p55 := e55
 clear S e5 e6 e53 e54 e55
 rintro ρ' h J' hJ' ⟨e5, e6, e53, e54, e55, e10, e66, e67, k, e68, hk, S⟩
 refine Wc e67 e68 ?_
 refine cD (fun hlt2 => ?_) (fun hlt2 => ?_)
 ·have hkn : k < n := by omega
  have hml := a6Y (a1s sg out U) U hXl k
  have hrs := B4 S.p1 (i := k) (l_r (by omega))
  have hru := E6 Unt.enc_len S (i := k) (j := 3) (by omega) (by omega)
  rw [a7e _ _ hXl (by omega)] at hru
  have hrg := l9 (off := 1) S.p2
  simp only [l_p, l_o] at hrg
  have hsb := hs3 _ (l_v (l := out) (n := k) (by omega))
  have hub := hrb _ (l_v (l := U) (n := k) (by omega))
  have hXk : (a1s sg out U)[k]'(by omega) = { (U[k]'(by omega)) with share := (U[k]'(by omega)).share + sg * out[k]'(by omega) } := by simp only [a1s, List.getElem_zipWith]
  have hset := b0Z (a1s sg out U) U hXl (k := k) (by omega)
  rw [hXk] at hset
  have hmg := a7e (a1s sg out U) U hXl (k := k) (by omega)
  generalize out[k]'(by omega) = s at *
  generalize hu : U[k]'(by omega) = u at *
  simp only [Unt.enc, l_p, l_o] at hru
  have w1 : IntKind.i64.wrap (sg * s) = sg * s := by
   rcases hsg with rfl | rfl <;> exact m9 (by omega) (by omega)
  have w2 : IntKind.i64.wrap (u.share + sg * s) = u.share + sg * s := by
   rcases hsg with rfl | rfl <;> exact m9 (by omega) (by omega)
  refine Wd e66 e68 hrs ?_
  refine dE ?_
  refine Wi e5 e68 e10 hru hrg hrs w1 w2 ?_
  refine D9 Unt.enc_len (i := k) (j := 3) (x := { u with share := u.share + sg * s }) S (by omega) (by omega) (v8 4) rfl rfl (by rw [hmg]; rfl) ?_
  clear S hru hrg hrs
  intro h S
  rw [hset] at S
  refine Wb e68 ?_
  refine hJ' _ _ ?_ ?_
  ·refine Wi e5 e6 e53 e54 e55 e10 e66 e67 ?_
   exact ⟨k + 1, rfl, by omega, S⟩
  ·refine Wb e68 ?_
   omega
 ·obtain rfl : k = n := by omega
  rw [a1e (by omega), List.drop_of_length_le (by omega), C4, ← hsucc] at S
  refine Wc e55 p55 ?_
  refine hJ _ _ ?_ ?_
  ·refine Wi e5 p5 e6 p6 e53 p53 e54 p54 ?_
   exact ⟨r + 1, rfl, by omega, S.d1.d1.p2.p2⟩
  ·refine Wb p55 ?_
   omega
end
end
section
set_option maxHeartbeats 16000000
theorem a5s {h0 : c9} (C : Cfg) (r : C.rd h0) (l1 : C.os.length < 1000000) (l2 : C.ss.length < 1000000) (l3 : C.ps.length < 1000000) (l4 : ∀ o ∈ C.os, o.ls.length < 1000000) :
  d8 Tryz.prog 12 [.agg C.enc.toArray] h0 fun v h' => v = .bool (dcd (C8 C)) ∧ Fr h0 h' [] := by
 have S := St.nil h0
 have r' : ∀ {h' : c9} {l : List HP}, St h0 h' l → C.rd h' := fun S => r.fr S.fr
 refine EN i12.eq_1 fun K hK => Wa ?_
 (revert S; (try clear F); refine AL fun g h S F => ?_)
 refine Wc F @Cfg.enc.eq_1 ?_
 refine cI (a5Q (r' S).ps (by omega)) ?_
 rintro _ h ⟨rfl, hf⟩
 have S := S.frame hf
 by_cases d1 : Y2 C.ps
 case neg =>
  rw [dF d1]
  refine Wa ?_
  exact hK _ _ ⟨by rw [dF (fun h => d1 h.1)], S.fr⟩
 rw [dT d1]
 ((try clear F); have F := S.fx)
 by_cases d2 : 20 < (C.os.length : Int)
 ·refine Wd F @Cfg.enc.eq_1 d2 ?_
  exact hK _ _ ⟨by rw [dF (fun h => by have := h.2.1; omega)], S.fr⟩
 by_cases d3 : 20 < (C.ss.length : Int)
 ·refine We F @Cfg.enc.eq_1 d2 d3 ?_
  exact hK _ _ ⟨by rw [dF (fun h => by have := h.2.2.1; omega)], S.fr⟩
 refine We F @Cfg.enc.eq_1 d2 d3 ?_
 refine lI (fun ρ h' => ρ 1 = .pointer (some ⟨g, 0, none⟩) ∧ ρ 30 = .int .i64 C.os.length ∧ ∃ i : Nat, ρ 31 = .int .i64 i ∧ i ≤ C.os.length ∧ (∀ o ∈ C.os.take i, A4 C.ps.length o) ∧ ρ 3 = .int .i64 (u2 (C.os.take i)) ∧
  St h0 h' [f8 g C.enc 26]) (fun ρ _ => C.os.length - (iv (ρ 31)).toNat) ?_ ?_
 ·refine Wa ?_
  exact ⟨0, rfl, by omega, by simp, rfl, S⟩
 clear S F
 rintro ρ h J hJ ⟨e1, e30, i, e31, hi, hok, e3, S⟩
 refine Wc e30 e31 ?_
 refine cD (fun hlt => ?_) (fun hlt => ?_)
 ·have hil : i < C.os.length := by omega
  obtain ⟨b, off, hA, hr1⟩ := (r' S).os.at hil
  have hmem := l_v hil
  have hlb := H9 hok
  have hlen : (C.os.take i).length ≤ 20 := by rw [u6]; omega
  have hs1 := a4e hil
  have hll := l4 _ hmem
  have hrl := fun {h'} {l'} (S : St h0 h' l') => (r' S).ls _ hmem
  have hbad : ¬ A4 C.ps.length C.os[i] → ¬ C8 C := fun hn h => hn (h.2.2.2.1 _ hmem)
  have htk : A4 C.ps.length C.os[i] → ∀ o ∈ C.os.take (i + 1), A4 C.ps.length o := fun hx o ho => by
   rw [l_t hil] at ho
   rcases List.mem_append.1 ho with ho | ho
   ·exact hok o ho
   ·rw [Q9] at ho; rw [ho]; exact hx
  generalize C.os[i] = o at *
  ((try clear F); have F := S.fx)
  refine Wg e1 e31 F @Cfg.enc.eq_1 hA hr1 ?_
  (revert S; (try clear F); refine AL fun q h S F => ?_)
  refine Wc F @Odr.enc.eq_1 ?_
  (revert S; (try clear F); refine ST fun h S F => ?_)
  by_cases d1 : o.day < 0
  ·refine Wc F d1 ?_
   exact hK _ _ ⟨by rw [dF (hbad fun h => by have := h.1.1.1; omega)], S.fr⟩
  by_cases d2 : 100000 < o.day
  ·refine Wd F d1 d2 ?_
   exact hK _ _ ⟨by rw [dF (hbad fun h => by have := h.1.1.2; omega)], S.fr⟩
  by_cases d3 : (o.ls.length : Int) < 1
  ·refine We F d1 d2 d3 ?_
   exact hK _ _ ⟨by rw [dF (hbad fun h => by have := h.1.2.1.1; omega)], S.fr⟩
  by_cases d4 : 8 < (o.ls.length : Int)
  ·refine Wf F d1 d2 d3 d4 ?_
   exact hK _ _ ⟨by rw [dF (hbad fun h => by have := h.1.2.1.2; omega)], S.fr⟩
  refine Wf F d1 d2 d3 d4 ?_
  refine cI (Y9 _ _) ?_
  rintro _ _ ⟨rfl, rfl⟩
  by_cases d5 : y9 o.disc
  case neg =>
   rw [dF d5]
   refine Wa ?_
   exact hK _ _ ⟨by rw [dF (hbad fun h => d5 h.1.2.2.1)], S.fr⟩
  rw [dT d5]
  refine Wb F ?_
  refine cI (Y9 _ _) ?_
  rintro _ _ ⟨rfl, rfl⟩
  by_cases d6 : y9 o.tax
  case neg =>
   rw [dF d6]
   refine Wa ?_
   exact hK _ _ ⟨by rw [dF (hbad fun h => d6 h.1.2.2.2.1)], S.fr⟩
  rw [dT d6]
  refine Wb F ?_
  refine cI (Y9 _ _) ?_
  rintro _ _ ⟨rfl, rfl⟩
  by_cases d7 : y9 o.ship
  case neg =>
   rw [dF d7]
   refine Wa ?_
   exact hK _ _ ⟨by rw [dF (hbad fun h => d7 h.1.2.2.2.2)], S.fr⟩
  rw [dT d7]
  have hhead : b0p o := ⟨⟨by omega, by omega⟩, ⟨by omega, by omega⟩, d5, d6, d7⟩
  refine Wb F ?_
  refine lI (fun ρ' h' => ρ' 1 = .pointer (some ⟨g, 0, none⟩) ∧ ρ' 30 = .int .i64 C.os.length ∧ ρ' 31 = .int .i64 i ∧ ρ' 5 = .pointer (some ⟨q, 0, none⟩) ∧ ρ' 79 = .int .i64 o.ls.length ∧ ∃ k : Nat, ρ' 80 = .int .i64 k ∧ k ≤ o.ls.length ∧ (∀ l ∈ o.ls.take k, F7 C.ps.length l) ∧ ρ' 3 = .int .i64 (u2 (C.os.take i) + B7 (o.ls.take k)) ∧ ρ' 6 = .int .i64 (M4 (o.ls.take k)) ∧
   St h0 h' [f8 q o.enc 90, f8 g C.enc 26]) (fun ρ' _ => o.ls.length - (iv (ρ' 80)).toNat) ?_ ?_
  ·refine We e1 e30 e31 e3 ?_
   exact ⟨0, rfl, by omega, by simp, by simp [B7], rfl, S⟩
  have p31 := e31
  clear S F e1 e30 e31 e3 hr1
  rintro ρ' h J' hJ' ⟨e1, e30, e31, e5, e79, k, e80, hk, hlk, e3, e6, S⟩
  refine Wc e79 e80 ?_
  refine cD (fun hlt2 => ?_) (fun hlt2 => ?_)
  ·have hkl : k < o.ls.length := by omega
   obtain ⟨b2, off2, hA2, hr2⟩ := (hrl S).at hkl
   have hlb2 := G3 hlk
   have hlen2 : (o.ls.take k).length ≤ 8 := by rw [u6]; omega
   have hm2 := l_v hkl
   have hs3 := a5B hkl
   have hs4 := a0u hkl
   have hbad2 : ¬ F7 C.ps.length o.ls[k] → ¬ C8 C := fun hn => hbad fun h => hn (h.2.1 _ hm2)
   have htk2 : F7 C.ps.length o.ls[k] → ∀ l ∈ o.ls.take (k + 1), F7 C.ps.length l := fun hx l hl => by
    rw [l_t hkl] at hl
    rcases List.mem_append.1 hl with hl | hl
    ·exact hlk l hl
    ·rw [Q9] at hl; rw [hl]; exact hx
   generalize o.ls[k] = x at *
   ((try clear F); have F := S.fx)
   refine Wg e5 e80 F @Odr.enc.eq_1 hA2 hr2 ?_
   (revert S; (try clear F); refine AL fun p h S F => ?_)
   refine Wc F @Lin.enc.eq_1 ?_
   (revert S; (try clear F); refine ST fun h S F => ?_)
   by_cases c1 : x.sku < 1
   ·refine Wc F c1 ?_
    exact hK _ _ ⟨by rw [dF (hbad2 fun h => by have := h.1.1.1; omega)], S.fr⟩
   by_cases c2 : 1000 < x.sku
   ·refine Wd F c1 c2 ?_
    exact hK _ _ ⟨by rw [dF (hbad2 fun h => by have := h.1.1.2; omega)], S.fr⟩
   by_cases c3 : x.cat < 0
   ·refine We F c1 c2 c3 ?_
    exact hK _ _ ⟨by rw [dF (hbad2 fun h => by have := h.2.1; omega)], S.fr⟩
   by_cases c4 : (C.ps.length : Int) ≤ x.cat
   ·refine Wh F c1 c2 c3 e1 @Cfg.enc.eq_1 c4 ?_
    exact hK _ _ ⟨by rw [dF (hbad2 fun h => by have := h.2.2; omega)], S.fr⟩
   refine Wh F c1 c2 c3 e1 @Cfg.enc.eq_1 c4 ?_
   refine cI (Y9 _ _) ?_
   rintro _ _ ⟨rfl, rfl⟩
   by_cases c5 : y9 x.price
   case neg =>
    rw [dF c5]
    refine Wa ?_
    exact hK _ _ ⟨by rw [dF (hbad2 fun h => c5 h.1.2.1)], S.fr⟩
   rw [dT c5]
   by_cases c6 : x.count < 1
   ·refine Wc F c6 ?_
    exact hK _ _ ⟨by rw [dF (hbad2 fun h => by have := h.1.2.2.1; omega)], S.fr⟩
   by_cases c7 : 50 < x.count
   ·refine Wd F c6 c7 ?_
    exact hK _ _ ⟨by rw [dF (hbad2 fun h => by have := h.1.2.2.2; omega)], S.fr⟩
   have hx : F7 C.ps.length x := ⟨⟨⟨by omega, by omega⟩, c5, by omega, by omega⟩, by omega, by omega⟩
   have hxb := a2e hx
   have w1 : IntKind.i64.wrap (u2 (C.os.take i) + B7 (o.ls.take k) + x.count) = u2 (C.os.take i) + B7 (o.ls.take k) + x.count := m9 (by omega) (by omega)
   have w2 : IntKind.i64.wrap (x.price * x.count) = x.price * x.count := m9 (by omega) (by omega)
   have w3 : IntKind.i64.wrap (M4 (o.ls.take k) + x.price * x.count) = M4 (o.ls.take k) + x.price * x.count := m9 (by omega) (by omega)
   refine Wi F c6 c7 e3 e6 w1 w2 (Pc w3 e80) ?_
   refine hJ' _ _ ?_ ?_
   ·refine Wf e1 e30 e31 e5 e79 ?_
    exact ⟨k + 1, rfl, by omega, htk2 hx, by rw [hs4, Int.add_assoc], by rw [hs3], S.tl⟩
   ·refine Wb e80 ?_
    omega
  ·obtain rfl : k = o.ls.length := by omega
   rw [E8] at hlk e3 e6
   ((try clear F); have F := S.fx)
   by_cases c8 : M4 o.ls < o.disc
   ·refine Wf e5 F @Odr.enc.eq_1 e6 c8 ?_
    exact hK _ _ ⟨by rw [dF (hbad fun h => by have := h.2.2; omega)], S.fr⟩
   have hoo : A4 C.ps.length o := ⟨hhead, hlk, by omega⟩
   refine Wg e5 F @Odr.enc.eq_1 e6 c8 e31 ?_
   refine hJ _ _ ?_ ?_
   ·refine Wc e1 e30 ?_
    exact ⟨i + 1, rfl, by omega, htk hoo, by rw [hs1]; exact e3, S.tl⟩
   ·refine Wb p31 ?_
    omega
 obtain rfl : i = C.os.length := by omega
 rw [E8] at hok e3
 clear hJ
 have hob := H9 hok
 ((try clear F); have F := S.fx)
 refine Wd e1 F @Cfg.enc.eq_1 ?_
 refine lI (fun ρ h' => ρ 1 = .pointer (some ⟨g, 0, none⟩) ∧ ρ 144 = .int .i64 C.ss.length ∧ ∃ i : Nat, ρ 145 = .int .i64 i ∧ i ≤ C.ss.length ∧ a3H (C.ss.take i) ∧ ρ 3 = .int .i64 (u2 C.os + z0 (C.ss.take i)) ∧
  St h0 h' [f8 g C.enc 26]) (fun ρ _ => C.ss.length - (iv (ρ 145)).toNat) ?_ ?_
 ·refine Wc e1 e3 ?_
  exact ⟨0, rfl, by omega, ⟨by simp, by simp⟩, by simp [z0], S⟩
 clear S F e1 e30 e31 e3
 rintro ρ h J hJ ⟨e1, e144, i, e145, hi, hsu, e3, S⟩
 refine Wc e144 e145 ?_
 refine cD (fun hlt => ?_) (fun hlt => ?_)
 ·have hil : i < C.ss.length := by omega
  obtain ⟨b, off, hA, hr1⟩ := (r' S).ss.at hil
  have hsb := O0 hsu.1
  have hlen : (C.ss.take i).length ≤ 20 := by rw [u6]; omega
  have hs1 := X1 hil
  have hno := fun h : C8 C => b1E hil h.2.2.2.2.1
  have hsn := a6x hil hsu
  generalize C.ss[i] = x at *
  ((try clear F); have F := S.fx)
  refine Wg e1 e145 F @Cfg.enc.eq_1 hA hr1 ?_
  (revert S; (try clear F); refine AL fun q h S F => ?_)
  refine Wc F @Sup.enc.eq_1 ?_
  (revert S; (try clear F); refine ST fun h S F => ?_)
  by_cases c1 : x.sku < 1
  ·refine Wc F c1 ?_
   exact hK _ _ ⟨by rw [dF (fun h => by have := (hno h).1.1.1; omega)], S.fr⟩
  by_cases c2 : 1000 < x.sku
  ·refine Wd F c1 c2 ?_
   exact hK _ _ ⟨by rw [dF (fun h => by have := (hno h).1.1.2; omega)], S.fr⟩
  refine Wd F c1 c2 ?_
  refine cI (Y9 _ _) ?_
  rintro _ _ ⟨rfl, rfl⟩
  by_cases c5 : y9 x.price
  case neg =>
   rw [dF c5]
   refine Wa ?_
   exact hK _ _ ⟨by rw [dF (fun h => c5 (hno h).1.2.1)], S.fr⟩
  rw [dT c5]
  by_cases c6 : x.count < 1
  ·refine Wc F c6 ?_
   exact hK _ _ ⟨by rw [dF (fun h => by have := (hno h).1.2.2.1; omega)], S.fr⟩
  by_cases c7 : 50 < x.count
  ·refine Wd F c6 c7 ?_
   exact hK _ _ ⟨by rw [dF (fun h => by have := (hno h).1.2.2.2; omega)], S.fr⟩
  have hx : a2Q x := ⟨⟨by omega, by omega⟩, c5, by omega, by omega⟩
  refine Wd F c6 c7 ?_
  refine lI (fun ρ' h' => ρ' 1 = .pointer (some ⟨g, 0, none⟩) ∧ ρ' 144 = .int .i64 C.ss.length ∧ ρ' 145 = .int .i64 i ∧ ρ' 3 = ρ 3 ∧ ρ' 10 = .pointer (some ⟨q, 0, none⟩) ∧ ρ' 177 = .int .i64 i ∧ ∃ k : Nat, ρ' 178 = .int .i64 k ∧ k ≤ i ∧ (∀ y ∈ C.ss.take k, y.sku ≠ x.sku) ∧
   St h0 h' [f8 q x.enc 95, f8 g C.enc 26]) (fun ρ' _ => i - (iv (ρ' 178)).toNat) ?_ ?_
  ·refine Wd e1 e144 e145 ?_
   exact ⟨0, rfl, by omega, by simp, S⟩
  have p145 := e145
  clear S F e1 e144 e145 hr1
  rintro ρ' h J' hJ' ⟨e1, e144, e145, q3, e10, e177, k, e178, hk, hne, S⟩
  refine Wc e177 e178 ?_
  refine cD (fun hlt2 => ?_) (fun hlt2 => ?_)
  ·have hki : k < i := by omega
   have hkl : k < C.ss.length := by omega
   obtain ⟨b2, off2, hA2, hr2⟩ := (r' S).ss.at hkl
   have hm2 : C.ss[k] ∈ C.ss.take i := by
    have := l_v (l := C.ss.take i) (n := k) (by rw [u6]; omega)
    rw [List.getElem_take] at this
    exact this
   have htk2 : ¬ (C.ss[k]).sku = x.sku → ∀ y ∈ C.ss.take (k + 1), y.sku ≠ x.sku := fun hx y hy => by
    rw [l_t hkl] at hy
    rcases List.mem_append.1 hy with hy | hy
    ·exact hne y hy
    ·rw [Q9] at hy; rw [hy]; exact hx
   generalize C.ss[k] = y at *
   have hr2 := rP0 hr2 (by decide)
   simp only [Sup.enc, l_o] at hr2
   ((try clear F); have F := S.fx)
   by_cases c8 : y.sku = x.sku
   ·refine Wa ?_
    refine dE ?_
    refine Wi e1 e178 F @Cfg.enc.eq_1 hA2 hr2 @Sup.enc.eq_1 (Pc e10 c8) ?_
    exact hK _ _ ⟨by rw [dF (fun h => (hno h).2 ⟨y, hm2, c8⟩)], S.fr⟩
   ·refine Wa ?_
    refine dE ?_
    refine Wi e1 e178 F @Cfg.enc.eq_1 hA2 hr2 @Sup.enc.eq_1 (Pc e10 c8) ?_
    refine hJ' _ _ ?_ ?_
    ·refine Wg e1 e144 e145 q3 e10 e177 ?_
     exact ⟨k + 1, rfl, by omega, htk2 c8, S⟩
    ·refine Wb e178 ?_
     omega
  ·obtain rfl : k = i := by omega
   ((try clear F); have F := S.fx)
   have w1 : IntKind.i64.wrap (u2 C.os + z0 (C.ss.take k) + x.count) = u2 C.os + z0 (C.ss.take k) + x.count := m9 (by omega) (by omega)
   refine Wh q3 e3 e10 F @Sup.enc.eq_1 w1 e145 ?_
   refine hJ _ _ ?_ ?_
   ·refine Wc e1 e144 ?_
    exact ⟨k + 1, rfl, by omega, hsn hx (by rintro ⟨y, hy, e⟩; exact hne y hy e), by rw [hs1, Int.add_assoc], S.tl⟩
   ·refine Wb p145 ?_
    omega
 obtain rfl : i = C.ss.length := by omega
 rw [E8] at hsu e3
 refine Wb e3 ?_
 exact hK _ _ ⟨congrArg Value.bool (congrArg dcd (propext ⟨fun h => ⟨d1, by omega, by omega, hok, hsu, h⟩, fun h => h.2.2.2.2.2⟩)), S.fr⟩
end
section
set_option maxHeartbeats 8000000
theorem b6i {k : Int} : ∀ {os : List Odr}, (∀ o ∈ os, A4 k o) → ∀ o ∈ os, B7 o.ls ≤ u2 os
 | [], _, o, ho => by cases ho
 | x :: os, h, o, ho => by
  have h1 := G3 (h x (by simp)).2.1
  have h2 := H9 (os := os) fun y hy => h y (by simp [hy])
  have h3 := b6i (os := os) fun y hy => h y (by simp [hy])
  simp only [u2, G0, F3] at h2 h3 ⊢
  rcases List.mem_cons.1 ho with rfl | ho
  ·omega
  ·have := h3 o ho; omega
theorem C8.okO {C : Cfg} (h : C8 C) : ∀ o ∈ C.os, OkO o := fun o ho => by
 obtain ⟨_, h1, h2, h3, h4, h5⟩ := h
 obtain ⟨⟨_, ⟨n0, n1⟩, d, t, s⟩, hl, hd⟩ := h3 o ho
 have hc := b6i h3 o ho
 have hs := O0 h4.1
 have ht : a3V C = u2 C.os + z0 C.ss := rfl
 exact ⟨⟨_, hl⟩, n0, n1, by omega, d, t, s, hd⟩
theorem X3 {o : Odr} (h : OkO o) (i : Int) : ((M9 o i).length : Int) = B7 o.ls := by
 rw [M9, a0p h, (G5 o.ls h.count).1]
theorem U0 : ∀ {os : List Odr} (i : Nat), (∀ o ∈ os, OkO o) → ((z5 i os).length : Int) = u2 os
 | [], i, _ => rfl
 | x :: os, i, h => by
  have h1 := X3 (h x (by simp)) i
  have h2 := U0 (os := os) (i + 1) fun y hy => h y (by simp [hy])
  simp only [z5, l_m, u2, G0, F3] at h2 ⊢
  omega
theorem a5a {os : List Odr} {i : Nat} (hi : i < os.length) : z5 0 (os.take (i + 1)) = z5 0 (os.take i) ++ M9 os[i] i := by
 rw [l_t hi, b2n, u6, Nat.min_eq_left (by omega)]
 simp [z5]
theorem a6V {ss : List Sup} {i : Nat} (hi : i < ss.length) : (ss.take (i + 1)).flatMap N2 = (ss.take i).flatMap N2 ++ N2 ss[i] := by
 rw [l_t hi, a0V]
 simp
theorem a2V : ∀ {ss : List Sup}, (∀ s ∈ ss, a2Q s) → ((ss.flatMap N2).length : Int) = z0 ss
 | [], _ => rfl
 | x :: ss, h => by
  have h1 := (h x (by simp)).2.2
  have h2 := a2V (ss := ss) fun y hy => h y (by simp [hy])
  simp only [T0, l_m, N2, C1, z0, G0, F3] at h2 ⊢
  omega
theorem a5n {k : Int} {os : List Odr} (h : ∀ o ∈ os, A4 k o) (i : Nat) : u2 (os.take i) ≤ u2 os := by
 have h1 := H9 (os := os.drop i) fun o ho => h o (List.mem_of_mem_drop ho)
 have : u2 os = u2 (os.take i) + u2 (os.drop i) := by
  conv => lhs; rw [← C6 i os]
  rw [u2, N5, a0o]; rfl
 omega
theorem a5p {ss : List Sup} (h : ∀ s ∈ ss, a2Q s) (i : Nat) : z0 (ss.take i) ≤ z0 ss := by
 have h1 := O0 (ss := ss.drop i) fun o ho => h o (List.mem_of_mem_drop ho)
 have : z0 ss = z0 (ss.take i) + z0 (ss.drop i) := by
  conv => lhs; rw [← C6 i ss]
  rw [z0, N5, a0o]; rfl
 omega
section
variable {h0 h : c9} {l : List HP}
theorem b3f (C : Cfg) (r : ∀ h', St h0 h' l → C.rd h') (w : C.wf) (l1 : C.os.length < 1000000) (l2 : C.ss.length < 1000000) (l3 : C.ps.length < 1000000) (l4 : ∀ o ∈ C.os, o.ls.length < 1000000) (S : St h0 h l) :
  d8 Tryz.prog 25 [.agg C.enc.toArray] h fun v h' => (¬ C8 C ∧ v = .tuple #[.slice none 0 0, .int .i64 1] ∧ St h0 h' l) ∨ (C8 C ∧ ∃ s, v = .tuple #[s, .int .i64 0] ∧ St h0 h' (f9 Unt.enc 4 72 s (l6 C) :: l)) := by
 refine EN i25.eq_1 fun K hK => Wa ?_
 (revert S; (try clear F); refine AL fun g h S F => ?_)
 refine Wc F @Cfg.enc.eq_1 ?_
 have hR := b2q C (r h S.tl) w l1 l2 l3 l4
 rw [show [Value.slice C.A1 C.os.length C.c1, Value.slice C.A2 C.ss.length C.c2, Value.slice C.A3 C.ps.length C.c3] = C.enc from rfl]
 refine cI hR ?_
 rintro _ h ⟨rfl, hf⟩
 have S := S.frame hf
 by_cases hok : C8 C
 case neg =>
  rw [dF hok]
  refine Wa ?_
  exact hK _ _ (.inl ⟨hok, rfl, S.tl⟩)
 rw [dT hok]
 obtain ⟨_, k1, k2, k3, k4, k5⟩ := id hok
 have hOk := hok.okO
 have ht : a3V C = u2 C.os + z0 C.ss := rfl
 have hob := H9 k3
 have hsb := O0 k4.1
 ((try clear F); have F := S.fx)
 have S : St h0 h (f9 Unt.enc 4 72 (.slice none 0 0) [] :: _) := S.nilS
 refine Wc F @Cfg.enc.eq_1 ?_
 refine lI (fun ρ h' => ρ 1 = .pointer (some ⟨g, 0, none⟩) ∧ ρ 13 = .slice C.A1 C.os.length C.c1 ∧ ρ 14 = .int .i64 C.os.length ∧ ∃ i : Nat, ρ 15 = .int .i64 i ∧ i ≤ C.os.length ∧ ∃ (Au : Option Addr) (cu : Nat), ρ 4 = .slice Au (z5 0 (C.os.take i)).length cu ∧
  St h0 h' (f9 Unt.enc 4 72 (.slice Au (z5 0 (C.os.take i)).length cu) (z5 0 (C.os.take i)) :: f8 g C.enc 26 :: l)) (fun ρ _ => C.os.length - (iv (ρ 15)).toNat) ?_ ?_
 ·refine Wa ?_
  exact ⟨0, rfl, by omega, none, 0, rfl, S⟩
 clear S F hR
 rintro ρ h J hJ ⟨e1, e13, e14, i, e15, hi, Au, cu, e4, S⟩
 refine Wc e14 e15 ?_
 refine cD (fun hlt => ?_) (fun hlt => ?_)
 ·have hil : i < C.os.length := by omega
  obtain ⟨b, off, hA, hr1⟩ := (r _ S.tl.tl).os.at hil
  have hmem := l_v hil
  have hs1 := a5a hil
  have hrl := fun {h'} (S : St h0 h' l) => (r _ S).ls _ hmem
  have hO := hOk _ hmem
  have hul := X3 hO i
  have hlen := U0 (os := C.os.take i) 0 fun o ho => hOk o (a0S ho)
  have hle := a5n k3 i
  generalize C.os[i] = o at *
  generalize z5 0 (C.os.take i) = U at *
  have hcn := hO.cnt
  have ho8 := hO.n1
  refine We e13 e15 hA hr1 ?_
  (revert S; (try clear F); refine AL fun q h S F => ?_)
  refine Wc F @Odr.enc.eq_1 ?_
  (revert S; (try clear F); refine ST fun h S F => ?_)
  refine Wc e4 F ?_
  refine cI (b4M o i hO (fun h' S => hrl S.tl.tl.tl) S) ?_
  clear S F hr1
  intro v h S
  obtain ⟨Av, cv, rfl⟩ := S.sl
  refine Wa ?_
  refine tAp (bytes := 32) (ys := M9 o i) Unt.enc_len (by omega) Unt.enc_plain rfl S.p2 rfl (R8 Unt.enc_len (S.arr Unt.enc_len) rfl) (by omega) (by omega) ?_
  clear S
  intro v h S
  rw [← hs1] at S
  obtain ⟨Au, cu, rfl⟩ := S.sl
  refine Wb e15 ?_
  refine hJ _ _ ?_ ?_
  ·refine We e1 e13 e14 hA ?_
   exact ⟨i + 1, rfl, by omega, Au, cu, rfl, S.d1.d1⟩
  ·refine Wb e15 ?_
   omega
 obtain rfl : i = C.os.length := by omega
 rw [E8] at e4 S
 have hlen := U0 (os := C.os) 0 hOk
 clear hJ
 ((try clear F); have F := S.fx)
 refine Wd e1 F @Cfg.enc.eq_1 ?_
 refine lI (fun ρ h' => ρ 27 = .slice C.A2 C.ss.length C.c2 ∧ ρ 28 = .int .i64 C.ss.length ∧ ∃ i : Nat, ρ 29 = .int .i64 i ∧ i ≤ C.ss.length ∧ ∃ (Au : Option Addr) (cu : Nat), ρ 4 = .slice Au (z5 0 C.os ++ (C.ss.take i).flatMap N2).length cu ∧
  St h0 h' (f9 Unt.enc 4 72 (.slice Au (z5 0 C.os ++ (C.ss.take i).flatMap N2).length cu) (z5 0 C.os ++ (C.ss.take i).flatMap N2) :: l)) (fun ρ _ => C.ss.length - (iv (ρ 29)).toNat) ?_ ?_
 ·refine Wa ?_
  exact ⟨0, rfl, by omega, Au, cu, by simp [e4], by simpa using S.d1⟩
 clear S F e1 e13 e14 e15 e4
 rintro ρ h J hJ ⟨e27, e28, i, e29, hi, Au, cu, e4, S⟩
 refine Wc e28 e29 ?_
 refine cD (fun hlt => ?_) (fun hlt => ?_)
 ·have hil : i < C.ss.length := by omega
  obtain ⟨b, off, hA, hr1⟩ := (r _ S.tl).ss.at hil
  have hs1 : z5 0 C.os ++ (C.ss.take (i + 1)).flatMap N2 = (z5 0 C.os ++ (C.ss.take i).flatMap N2) ++ N2 C.ss[i] := by rw [a6V hil, l_q]
  have hx := k4.1 _ (l_v hil)
  have hl2 := a2V (ss := C.ss.take i) fun s hs => k4.1 s (a0S hs)
  have hl3 := a5p k4.1 (i + 1)
  rw [X1 hil] at hl3
  generalize C.ss[i] = x at *
  obtain ⟨_, _, hx0, hx1⟩ := hx
  have hPl : ((z5 0 C.os ++ (C.ss.take i).flatMap N2).length : Int) + x.count ≤ 200 := by rw [l_m]; omega
  generalize z5 0 C.os ++ (C.ss.take i).flatMap N2 = P at *
  refine We e27 e29 hA hr1 ?_
  (revert S; (try clear F); refine AL fun q h S F => ?_)
  refine Wc F @Sup.enc.eq_1 ?_
  (revert S; (try clear F); refine ST fun h S F => ?_)
  refine Wb F ?_
  refine lI (fun ρ' h' => ρ' 27 = ρ 27 ∧ ρ' 28 = ρ 28 ∧ ρ' 29 = ρ 29 ∧ ρ' 8 = .pointer (some ⟨q, 0, none⟩) ∧ ρ' 34 = .int .i64 x.count ∧ ∃ j : Nat, ρ' 35 = .int .i64 j ∧ j ≤ x.count.toNat ∧
   ∃ (Au : Option Addr) (cu : Nat), ρ' 4 = .slice Au (P.length + j) cu ∧
   St h0 h' (f9 Unt.enc 4 72 (.slice Au (P.length + j) cu) (P ++ List.replicate j ⟨-1, x.sku, 0, x.price⟩) :: f8 q x.enc 95 :: l)) (fun ρ' _ => x.count.toNat - (iv (ρ' 35)).toNat) ?_ ?_
  ·refine Wb e4 ?_
   exact ⟨0, rfl, by omega, Au, cu, rfl, by simp only [List.replicate_zero, C4, T2]; exact S.p1⟩
  have p27 := e27
  have p28 := e28
  have p29 := e29
  clear S F e27 e28 e29 e4 hr1
  rintro ρ' h J' hJ' ⟨e27, e28, e29, e8, e34, j, e35, hj, Au, cu, e4, S⟩
  refine Wc e34 e35 ?_
  refine cD (fun hlt2 => ?_) (fun hlt2 => ?_)
  ·have hjl : j < x.count.toNat := by omega
   have er2 : P ++ List.replicate j (⟨-1, x.sku, 0, x.price⟩ : Unt) ++ [⟨-1, x.sku, 0, x.price⟩] = P ++ List.replicate (j + 1) ⟨-1, x.sku, 0, x.price⟩ := by rw [l_q, ← List.replicate_succ']
   have hll : (P ++ List.replicate j (⟨-1, x.sku, 0, x.price⟩ : Unt)).length = P.length + j := by rw [l_m, C1]
   have hll2 : (P ++ List.replicate (j + 1) (⟨-1, x.sku, 0, x.price⟩ : Unt)).length = P.length + (j + 1) := by rw [l_m, C1]
   ((try clear F); have F := S.fx)
   refine We e8 F @Sup.enc.eq_1 e4 ?_
   (revert S; (try clear F); refine AL fun r1 h S F => ?_)
   refine Wa ?_
   refine tA1 (bytes := 32) (x := (⟨-1, x.sku, 0, x.price⟩ : Unt)) Unt.enc_len (by omega) Unt.enc_plain rfl rfl S (by omega) (by omega) ?_
   clear S F
   intro v h S
   rw [er2] at S
   obtain ⟨Au, cu, rfl⟩ := S.sl
   rw [hll2] at S ⊢
   refine Wb e35 ?_
   refine hJ' _ _ ?_ ?_
   ·refine Wf e27 e28 e29 e8 e34 ?_
    exact ⟨j + 1, rfl, by omega, Au, cu, rfl, S⟩
   ·refine Wb e35 ?_
    omega
  ·obtain rfl : j = x.count.toNat := by omega
   have hrp : P ++ List.replicate x.count.toNat (⟨-1, x.sku, 0, x.price⟩ : Unt) = P ++ N2 x := rfl
   have hll : (P ++ N2 x).length = P.length + x.count.toNat := by rw [l_m, N2, C1]
   rw [hrp] at S
   refine Wc e29 p29 ?_
   refine hJ _ _ ?_ ?_
   ·refine We e27 p27 e28 p28 ?_
    exact ⟨i + 1, rfl, by omega, Au, cu, by rw [hs1, hll]; exact e4, by rw [hs1, hll]; exact S.d1⟩
   ·refine Wb p29 ?_
    omega
 obtain rfl : i = C.ss.length := by omega
 rw [E8] at e4 S
 refine Wb e4 ?_
 exact hK _ _ (.inr ⟨hok, _, rfl, S⟩)
end
end
end Go.Proofs.YtcgbhcgfdcfmaaaGreat.MX
