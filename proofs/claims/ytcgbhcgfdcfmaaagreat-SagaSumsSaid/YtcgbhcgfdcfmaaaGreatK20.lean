import Derived.Test.YtcgbhcgfdcfmaaaGreatK19
import Derived.Test.YtcgbhcgfdcfmaaaGreatK16
namespace Go.Proofs.YtcgbhcgfdcfmaaaGreat.MX
open Go Go.Proofs
set_option linter.unusedSimpArgs false
set_option linter.unusedVariables false
section
set_option maxHeartbeats 16000000
theorem a4J {o : Odr} (h : OkO o) (i : Int) {k : Nat} (hk : k < (z9 i o.ls).length) (h1 : k < (shF o.disc.toNat (j9 o.ls)).length) (h2 : k < (shF o.tax.toNat (j9 o.ls)).length) (h3 : k < (shF o.ship.toNat (j9 o.ls)).length) (h4 : k < (M9 o i).length) :
  (M9 o i)[k] = { (z9 i o.ls)[k] with share := (z9 i o.ls)[k].share - (shF o.disc.toNat (j9 o.ls))[k] + (shF o.tax.toNat (j9 o.ls))[k] + (shF o.ship.toNat (j9 o.ls))[k] } := by
 simp only [M9, K9, a1s, List.getElem_zipWith, a1q, a6Z]
 congr 1
 omega
section
variable {h0 h : c9} {l : List HP}
theorem b2e (C : Cfg) (r : ∀ h', St h0 h' l → C.rd h') (hok : C8 C) (S : St h0 h l) :
  d8 Tryz.prog 13 [.agg C.enc.toArray] h fun v h' => St h0 h' (f9 Unt.enc 4 67 v (l6 C) :: l) := by
 obtain ⟨_, k1, k2, k3, k4, k5⟩ := id hok
 have hOk := hok.okO
 have ht : a3V C = u2 C.os + z0 C.ss := rfl
 have hob := H9 k3
 have hsb := O0 k4.1
 refine EN i13.eq_1 fun K hK => Wa ?_
 (revert S; (try clear F); refine AL fun g h S F => ?_)
 have S : St h0 h (f9 Unt.enc 4 67 (.slice none 0 0) [] :: _) := S.nilS
 refine Wc F @Cfg.enc.eq_1 ?_
 refine lI (fun ρ h' => ρ 1 = .pointer (some ⟨g, 0, none⟩) ∧ ρ 16 = .int .i64 C.os.length ∧ ∃ i : Nat, ρ 17 = .int .i64 i ∧ i ≤ C.os.length ∧ ∃ (Au : Option Addr) (cu : Nat), ρ 3 = .slice Au (z5 0 (C.os.take i)).length cu ∧
  St h0 h' (f9 Unt.enc 4 67 (.slice Au (z5 0 (C.os.take i)).length cu) (z5 0 (C.os.take i)) :: f8 g C.enc 26 :: l)) (fun ρ _ => C.os.length - (iv (ρ 17)).toNat) ?_ ?_
 ·refine Wa ?_
  exact ⟨0, rfl, by omega, none, 0, rfl, S⟩
 clear S F
 rintro ρ h J hJ ⟨e1, e16, i, e17, hi, Au, cu, e3, S⟩
 refine Wc e16 e17 ?_
 refine cD (fun hlt => ?_) (fun hlt => ?_)
 ·have hil : i < C.os.length := by omega
  obtain ⟨b, off, hA, hr1⟩ := (r _ S.tl.tl).os.at hil
  have hmem := l_v hil
  have hs1 := a5a hil
  have hrl := fun {h'} (S : St h0 h' l) => (r _ S).ls _ hmem
  have hO := hOk _ hmem
  have hul := X3 hO i
  have hlen := U0 (os := C.os.take i) 0 fun o ho => hOk o (a0S ho)
  have hle := a5n k3 i
  generalize C.os[i] = o at *
  generalize z5 0 (C.os.take i) = U at *
  have hcn := hO.cnt
  have ho8 := hO.n1
  obtain ⟨kk, hlk⟩ := hO.ls
  ((try clear F); have F := S.fx)
  refine Wg e1 e17 F @Cfg.enc.eq_1 hA hr1 ?_
  (revert S; (try clear F); refine AL fun q h S F => ?_)
  refine Wc F @Odr.enc.eq_1 ?_
  (revert S; (try clear F); refine ST fun h S F => ?_)
  have S : St h0 h (f9 j4 1 2 (.slice none 0 0) [] :: _) := S.nilS
  refine Wc e3 F ?_
  refine lI (fun ρ' h' => ρ' 1 = ρ 1 ∧ ρ' 16 = ρ 16 ∧ ρ' 17 = ρ 17 ∧ ρ' 4 = .int .i64 i ∧ ρ' 5 = .pointer (some ⟨q, 0, none⟩) ∧ ρ' 7 = .int .i64 U.length ∧ ρ' 29 = .int .i64 o.ls.length ∧ ∃ k : Nat, ρ' 30 = .int .i64 k ∧ k ≤ o.ls.length ∧
   ∃ (Ap Au : Option Addr) (cp cu : Nat), ρ' 6 = .slice Ap (j9 (o.ls.take k)).length cp ∧ ρ' 3 = .slice Au (U.length + (j9 (o.ls.take k)).length) cu ∧
   St h0 h' (f9 j4 1 2 (.slice Ap (j9 (o.ls.take k)).length cp) (j9 (o.ls.take k)) :: f9 Unt.enc 4 67 (.slice Au (U.length + (j9 (o.ls.take k)).length) cu) (U ++ z9 i (o.ls.take k)) :: f8 q o.enc 90 :: f8 g C.enc 26 :: l)) (fun ρ' _ => o.ls.length - (iv (ρ' 30)).toNat) ?_ ?_
  ·refine Wa ?_
   refine ⟨0, rfl, by omega, none, Au, 0, cu, rfl, e3, ?_⟩
   simp only [a0t, z9, List.flatMap_nil, C4]
   exact S.p2.p1
  have p1 := e1
  have p16 := e16
  have p17 := e17
  clear S F e1 e16 e17 e3 hr1
  rintro ρ' h J' hJ' ⟨e1, e16, e17, e4, e5, e7, e29, k, e30, hk, Ap, Au, cp, cu, e6, e3, S⟩
  refine Wc e29 e30 ?_
  refine cD (fun hlt2 => ?_) (fun hlt2 => ?_)
  ·have hkl : k < o.ls.length := by omega
   obtain ⟨b2, off2, hA2, hr2⟩ := (hrl S.tl.tl.tl.tl).at hkl
   have hu1 := a2S i hkl
   have hp1 := a3W hkl
   have hct := a5K hlk (k + 1)
   have hc1 := a0u hkl
   have hpl := (G5 (o.ls.take k) fun x hx => hO.count x (a0S hx)).1
   have hxl := ((G5 (o.ls.take k) fun x hx => hO.count x (a0S hx)).2.2 i).1
   have hx := hlk _ (l_v hkl)
   have hrx := fun {h'} (S : St h0 h' l) => (hrl S).at hkl
   generalize o.ls[k] = x at *
   obtain ⟨⟨_, ⟨hp0, hp1'⟩, hx0, hx1⟩, _⟩ := hx
   generalize j9 (o.ls.take k) = P at *
   generalize z9 i (o.ls.take k) = V at *
   have hq3 := rP hr2 3 (by omega)
   simp only [Lin.enc, l_o, l_p] at hq3
   ((try clear F); have F := S.fx)
   refine Wg e5 e30 F @Odr.enc.eq_1 hA2 hq3 ?_
   have hadd : ∀ j : Nat, j ≤ x.count.toNat → (P ++ List.replicate j x.price).length = P.length + j ∧ P.length + j ≤ 200 ∧ (U ++ V ++ List.replicate j (⟨i, x.sku, x.cat, x.price⟩ : Unt)).length = U.length + (P.length + j) := fun j hj => by
    refine ⟨by rw [l_m, C1], by omega, ?_⟩
    rw [l_m, l_m, C1, hxl, Nat.add_assoc]
   refine lI (fun ρ'' h' => ρ'' 1 = ρ' 1 ∧ ρ'' 16 = ρ' 16 ∧ ρ'' 17 = ρ' 17 ∧ ρ'' 4 = ρ' 4 ∧ ρ'' 5 = ρ' 5 ∧ ρ'' 7 = ρ' 7 ∧ ρ'' 29 = ρ' 29 ∧ ρ'' 30 = ρ' 30 ∧ ρ'' 8 = .int .i64 k ∧ ρ'' 38 = .int .i64 x.count ∧ ∃ j : Nat, ρ'' 39 = .int .i64 j ∧ j ≤ x.count.toNat ∧
    ∃ (Ap Au : Option Addr) (cp cu : Nat), ρ'' 6 = .slice Ap (P.length + j) cp ∧ ρ'' 3 = .slice Au (U.length + (P.length + j)) cu ∧
    St h0 h' (f9 j4 1 2 (.slice Ap (P.length + j) cp) (P ++ List.replicate j x.price) :: f9 Unt.enc 4 67 (.slice Au (U.length + (P.length + j)) cu) (U ++ V ++ List.replicate j ⟨i, x.sku, x.cat, x.price⟩) :: f8 q o.enc 90 :: f8 g C.enc 26 :: l)) (fun ρ'' _ => x.count.toNat - (iv (ρ'' 39)).toNat) ?_ ?_
   ·refine Wc e5 e30 ?_
    exact ⟨0, rfl, by omega, Ap, Au, cp, cu, e6, e3, by simp only [List.replicate_zero, C4, T2]; exact S⟩
   have p1 := e1
   have p16 := e16
   have p17 := e17
   have p4 := e4
   have p5 := e5
   have p7 := e7
   have p29 := e29
   have p30 := e30
   clear S F e1 e16 e17 e4 e5 e7 e29 e30 e3 e6 hq3 hr2
   rintro ρ'' h J'' hJ'' ⟨e1, e16, e17, e4, e5, e7, e29, e30, e8, e38, j, e39, hj, Ap, Au, cp, cu, e6, e3, S⟩
   refine Wc e38 e39 ?_
   refine cD (fun hlt3 => ?_) (fun hlt3 => ?_)
   ·have hjl : j < x.count.toNat := by omega
    obtain ⟨hl1, hl2, hl3⟩ := hadd j (by omega)
    obtain ⟨hm1, hm2, hm3⟩ := hadd (j + 1) (by omega)
    have er1 : P ++ List.replicate j x.price ++ [x.price] = P ++ List.replicate (j + 1) x.price := by rw [l_q, ← List.replicate_succ']
    have er2 : U ++ V ++ List.replicate j (⟨i, x.sku, x.cat, x.price⟩ : Unt) ++ [⟨i, x.sku, x.cat, x.price⟩] = U ++ V ++ List.replicate (j + 1) ⟨i, x.sku, x.cat, x.price⟩ := by rw [l_q (U ++ V), ← List.replicate_succ']
    obtain ⟨b3, off3, hA3, hr3⟩ := hrx S.tl.tl.tl.tl
    have hq0 := rP0 hr3 (by omega)
    have hq1 := rP hr3 1 (by omega)
    have hq2 := rP hr3 2 (by omega)
    simp only [Lin.enc, l_o, l_p] at hq0 hq1 hq2
    ((try clear F); have F := S.fx)
    refine Wa ?_
    refine dE ?_
    refine Wi e3 e4 p4 e5 p5 e8 F (Pf @Odr.enc.eq_1 hA3 hq0 hq1 hq2) ?_
    (revert S; (try clear F); refine AL fun r1 h S F => ?_)
    refine Wa ?_
    refine tA1 (bytes := 32) (x := (⟨i, x.sku, x.cat, x.price⟩ : Unt)) Unt.enc_len (by omega) Unt.enc_plain rfl rfl S.p2.p1 (by omega) (by omega) ?_
    clear S F hq0 hq1 hq2 hr3
    intro v h S
    rw [er2] at S
    obtain ⟨Au, cu, rfl⟩ := S.sl
    rw [hm3] at S ⊢
    obtain ⟨b4, off4, hA4, hr4⟩ := hrx S.tl.tl.tl.tl
    have hq2 := rP hr4 2 (by omega)
    simp only [Lin.enc, l_o, l_p] at hq2
    ((try clear F); have F := S.fx)
    refine Wi e6 e5 p5 F @Odr.enc.eq_1 e8 hA4 hq2 ?_
    (revert S; (try clear F); refine AL fun r2 h S F => ?_)
    refine Wa ?_
    refine tA1 (bytes := 8) (x := x.price) zEl (by omega) zEp rfl rfl S.p2.p1 (by omega) (by omega) ?_
    clear S F hq2 hr4
    intro v h S
    rw [er1] at S
    obtain ⟨Ap, cp, rfl⟩ := S.sl
    rw [hm1] at S ⊢
    refine Wb e39 ?_
    refine hJ'' _ _ ?_ ?_
    ·refine Wi e1 e16 e17 e4 e5 e7 e29 (Pd e30 e8 e38) ?_
     exact ⟨j + 1, rfl, by omega, Ap, Au, cp, cu, rfl, rfl, S⟩
    ·refine Wb e39 ?_
     omega
   ·obtain rfl : j = x.count.toNat := by omega
    obtain ⟨hl1, hl2, hl3⟩ := hadd x.count.toNat (by omega)
    have hpx : (P ++ a8F x).length = P.length + x.count.toNat := hl1
    have hux : U ++ (V ++ b6G i x) = U ++ V ++ List.replicate x.count.toNat ⟨i, x.sku, x.cat, x.price⟩ := by rw [← l_q]; rfl
    refine Wc e30 p30 ?_
    refine hJ' _ _ ?_ ?_
    ·refine Wi e1 p1 e16 p16 e17 p17 e4 (Pf p4 e5 p5 e7 (Pd p7 e29 p29)) ?_
     exact ⟨k + 1, rfl, by omega, Ap, Au, cp, cu, by rw [hp1, hpx]; exact e6, by rw [hp1, hpx]; exact e3, by rw [hu1, hp1, hpx, hux]; exact S⟩
    ·refine Wb p30 ?_
     omega
  obtain rfl : k = o.ls.length := by omega
  rw [E8] at S e6 e3
  clear hJ'
  have hXl := X3 hO i
  have hYl := ((G5 o.ls hO.count).2.2 i)
  have hPl := (G5 o.ls hO.count).1
  have hat := fun {k} (hk : k < (z9 i o.ls).length) h1 h2 h3 h4 => a4J hO i hk h1 h2 h3 h4
  have hVb : ∀ u ∈ z9 (i : Int) o.ls, 0 ≤ u.share ∧ u.share ≤ 1073741824 := fun u hu => by
   obtain ⟨v1, v2⟩ := a2i hO u.share (by rw [← hYl.2]; exact a3r hu)
   exact ⟨v1, v2⟩
  obtain ⟨dN, hdN⟩ : ∃ n : Nat, o.disc = n := ⟨o.disc.toNat, by have := hO.disc.1; omega⟩
  obtain ⟨tN, htN⟩ : ∃ n : Nat, o.tax = n := ⟨o.tax.toNat, by have := hO.tax.1; omega⟩
  obtain ⟨sN, hsN⟩ : ∃ n : Nat, o.ship = n := ⟨o.ship.toNat, by have := hO.ship.1; omega⟩
  have a1 : H2 dN (j9 o.ls) = 0 := by rw [← hdN]; exact hO.ask hO.disc
  have a2 : H2 tN (j9 o.ls) = 0 := by rw [← htN]; exact hO.ask hO.tax
  have a3 : H2 sN (j9 o.ls) = 0 := by rw [← hsN]; exact hO.ask hO.ship
  obtain ⟨b1l, _, b1b⟩ := a3f a1
  obtain ⟨b2l, _, b2b⟩ := a3f a2
  obtain ⟨b3l, _, b3b⟩ := a3f a3
  have hd30 := hO.disc.2
  have ht30 := hO.tax.2
  have hs30 := hO.ship.2
  rw [hdN, htN, hsN, M7, M7, M7] at hat
  rw [hdN] at hd30
  rw [htN] at ht30
  rw [hsN] at hs30
  have i1 := a3Q dN (j9 o.ls)
  have i2 := a3Q tN (j9 o.ls)
  have i3 := a3Q sN (j9 o.ls)
  generalize shF dN (j9 o.ls) = D1 at *
  generalize shF tN (j9 o.ls) = D2 at *
  generalize shF sN (j9 o.ls) = D3 at *
  generalize hW : M9 o i = W at *
  generalize hV : z9 (i : Int) o.ls = V at *
  generalize hP : j9 o.ls = P at *
  obtain ⟨n, hn⟩ : ∃ n, P.length = n := ⟨_, rfl⟩
  have hn200 : n ≤ 200 := by omega
  have hn0 : 0 < n := by
   have := G3 hlk
   have := hO.n0
   omega
  have rx2 : ∀ K t, n6 (fun h' => St h0 h' _) (fun h' => rd1 h' (.pointer (some ⟨q, 2, none⟩))) K t = z7 (some (.int .i64 o.disc)) K ⟨⟩ := fun K t => B1 S (fun h' s => l9 s.p2)
  have rx3 : ∀ K t, n6 (fun h' => St h0 h' _) (fun h' => rd1 h' (.pointer (some ⟨q, 3, none⟩))) K t = z7 (some (.int .i64 o.tax)) K ⟨⟩ := fun K t => B1 S (fun h' s => l9 s.p2)
  have rx4 : ∀ K t, n6 (fun h' => St h0 h' _) (fun h' => rd1 h' (.pointer (some ⟨q, 4, none⟩))) K t = z7 (some (.int .i64 o.ship)) K ⟨⟩ := fun K t => B1 S (fun h' s => l9 s.p2)
  refine Wa ?_
  refine T4 S ?_
  refine Wi e5 rx2 rx3 rx4 hdN htN hsN e6 ?_
  refine cI (a2x dN P (fun h' S => S.arr zEl) a1 i1 S) ?_
  clear S rx2 rx3 rx4
  intro v1 h S
  try refine ⟨S.tl, ?_⟩
  refine Wa ?_
  refine cI (a2x tN P (fun h' S => S.p1.arr zEl) a2 i2 S) ?_
  clear S
  intro v2 h S
  try refine ⟨S.tl.tl, ?_⟩
  refine Wa ?_
  refine cI (a2x sN P (fun h' S => S.p2.arr zEl) a3 i3 S) ?_
  clear S
  intro v3 h S
  obtain ⟨A3, c3, rfl⟩ := S.sl
  obtain ⟨A2, c2, rfl⟩ := S.p1.sl
  obtain ⟨A1, c1, rfl⟩ := S.p2.sl
  have S := S.p4
  rw [hn] at S e6 e3
  rw [b1l, b2l, b3l, hn] at S ⊢
  obtain ⟨bu, rfl⟩ := S.ownAt (by rw [l_m]; omega)
  obtain ⟨q3, rfl⟩ := S.p1.ownAt (by omega)
  obtain ⟨q2, rfl⟩ := S.p2.ownAt (by omega)
  obtain ⟨q1, rfl⟩ := S.p3.ownAt (by omega)
  have hXY : (U ++ W).length = (U ++ V).length := by rw [l_m, l_m]; omega
  refine Wb e6 ?_
  refine lI (fun ρ'' h' => ρ'' 1 = ρ' 1 ∧ ρ'' 16 = ρ' 16 ∧ ρ'' 17 = ρ' 17 ∧ ρ'' 3 = .slice (some ⟨bu, 0, none⟩) (U.length + n) cu ∧ ρ'' 7 = .int .i64 U.length ∧ ρ'' 9 = .slice (some ⟨q1, 0, none⟩) n c1 ∧ ρ'' 10 = .slice (some ⟨q2, 0, none⟩) n c2 ∧ ρ'' 11 = .slice (some ⟨q3, 0, none⟩) n c3 ∧ ρ'' 88 = .int .i64 n ∧ ∃ k : Nat, ρ'' 89 = .int .i64 k ∧ k ≤ n ∧
   St h0 h' (f9 Unt.enc 4 67 (.slice (some ⟨bu, 0, none⟩) (U.length + n) cu) ((U ++ W).take (U.length + k) ++ (U ++ V).drop (U.length + k)) :: f9 j4 1 2 (.slice (some ⟨q3, 0, none⟩) n c3) D3 :: f9 j4 1 2 (.slice (some ⟨q2, 0, none⟩) n c2) D2 :: f9 j4 1 2 (.slice (some ⟨q1, 0, none⟩) n c1) D1 ::
    f9 j4 1 2 (.slice Ap n cp) P :: f8 q o.enc 90 :: f8 g C.enc 26 :: l)) (fun ρ'' _ => n - (iv (ρ'' 89)).toNat) ?_ ?_
  ·refine Wc e3 e7 ?_
   refine ⟨0, rfl, by omega, ?_⟩
   rw [T2, List.take_left', List.drop_left'] <;> first | exact S | rfl
  have p1' := e1
  have p16' := e16
  have p17' := e17
  clear S e1 e16 e17 e4 e5 e7 e29 e30 e6 e3
  rintro ρ'' h J'' hJ'' ⟨e1, e16, e17, e3, e7, e9, e10, e11, e88, k, e89, hk, S⟩
  refine Wc e88 e89 ?_
  refine cD (fun hlt3 => ?_) (fun hlt3 => ?_)
  ·have hkn : k < n := by omega
   have hml := a6Y (U ++ W) (U ++ V) hXY (U.length + k)
   have hlUV : (U ++ V).length = U.length + n := by rw [l_m]; omega
   have hru := E6 Unt.enc_len S (i := U.length + k) (j := 3) (by omega) (by omega)
   have hmg := a7e (U ++ W) (U ++ V) hXY (k := U.length + k) (by omega)
   have hgV : (U ++ V)[U.length + k]'(by omega) = V[k]'(by omega) := by rw [List.getElem_append_right (by omega)]; simp
   have hgW : (U ++ W)[U.length + k]'(by omega) = W[k]'(by omega) := by rw [List.getElem_append_right (by omega)]; simp
   have hset := b0Z (U ++ W) (U ++ V) hXY (k := U.length + k) (by omega)
   rw [hmg, hgV] at hru
   rw [hgV] at hmg
   have hr1 := B4 S.p3 (i := k) (l_r (by omega))
   have hr2 := B4 S.p2 (i := k) (l_r (by omega))
   have hr3 := B4 S.p1 (i := k) (l_r (by omega))
   have hwk := hat (k := k) (by omega) (by omega) (by omega) (by omega) (by omega)
   have hb0 := hVb _ (l_v (l := V) (n := k) (by omega))
   have hb1 := b1b _ (l_v (l := D1) (n := k) (by omega))
   have hb2 := b2b _ (l_v (l := D2) (n := k) (by omega))
   have hb3 := b3b _ (l_v (l := D3) (n := k) (by omega))
   rw [hgW, hwk] at hset
   generalize D1[k]'(by omega) = x1 at *
   generalize D2[k]'(by omega) = x2 at *
   generalize D3[k]'(by omega) = x3 at *
   generalize V[k]'(by omega) = u at *
   simp only [Unt.enc, l_p, l_o] at hru
   have w0 : IntKind.i64.wrap ((U.length : Int) + k) = ((U.length + k : Nat) : Int) := a2s rfl (by omega)
   have w1 : IntKind.i64.wrap (u.share - x1) = u.share - x1 := m9 (by omega) (by omega)
   have w2 : IntKind.i64.wrap (u.share - x1 + x2) = u.share - x1 + x2 := m9 (by omega) (by omega)
   have w3 : IntKind.i64.wrap (u.share - x1 + x2 + x3) = u.share - x1 + x2 + x3 := m9 (by omega) (by omega)
   refine Wa ?_
   refine dE ?_
   refine Wi e3 e7 e89 e9 e10 e11 w0 (Pf hru hr1 hr2 hr3 (Pd w1 w2 w3)) ?_
   refine D9 Unt.enc_len (i := U.length + k) (j := 3) (x := { u with share := u.share - x1 + x2 + x3 }) S (by omega) (by omega) (v8 4) rfl rfl (by rw [hmg]; rfl) ?_
   clear S hru hr1 hr2 hr3
   intro h S
   rw [hset] at S
   refine Wb e89 ?_
   refine hJ'' _ _ ?_ ?_
   ·refine Wi e1 e16 e17 e3 e7 e9 e10 (Pc e11 e88) ?_
    exact ⟨k + 1, rfl, by omega, S⟩
   ·refine Wb e89 ?_
    omega
  ·obtain rfl : k = n := by omega
   rw [a1e (by rw [l_m]; omega), List.drop_of_length_le (by rw [l_m]; omega), C4, ← hs1] at S
   have hfl : (z5 0 (C.os.take (i + 1))).length = U.length + k := by rw [hs1, l_m]; omega
   refine Wd e17 p17' p17 ?_
   refine hJ _ _ ?_ ?_
   ·refine Wg e1 p1' p1 e16 p16' p16 ?_
    exact ⟨i + 1, rfl, by omega, _, cu, by rw [hfl]; exact e3, by rw [hfl]; exact S.d1.d1.d1.d1.d1⟩
   ·refine Wb p17 ?_
    omega
 obtain rfl : i = C.os.length := by omega
 rw [E8] at e3 S
 have hlen := U0 (os := C.os) 0 hOk
 clear hJ
 ((try clear F); have F := S.fx)
 refine Wd e1 F @Cfg.enc.eq_1 ?_
 refine lI (fun ρ h' => ρ 1 = .pointer (some ⟨g, 0, none⟩) ∧ ρ 124 = .int .i64 C.ss.length ∧ ∃ i : Nat, ρ 125 = .int .i64 i ∧ i ≤ C.ss.length ∧ ∃ (Au : Option Addr) (cu : Nat), ρ 3 = .slice Au (z5 0 C.os ++ (C.ss.take i).flatMap N2).length cu ∧
  St h0 h' (f9 Unt.enc 4 67 (.slice Au (z5 0 C.os ++ (C.ss.take i).flatMap N2).length cu) (z5 0 C.os ++ (C.ss.take i).flatMap N2) :: f8 g C.enc 26 :: l)) (fun ρ _ => C.ss.length - (iv (ρ 125)).toNat) ?_ ?_
 ·refine Wb e1 ?_
  exact ⟨0, rfl, by omega, Au, cu, by simp [e3], by simpa using S⟩
 clear S F e1 e16 e17 e3
 rintro ρ h J hJ ⟨e1, e124, i, e125, hi, Au, cu, e3, S⟩
 refine Wc e124 e125 ?_
 refine cD (fun hlt => ?_) (fun hlt => ?_)
 ·have hil : i < C.ss.length := by omega
  have hrx := fun {h'} (S : St h0 h' l) => (r _ S).ss.at hil
  have hs1 : z5 0 C.os ++ (C.ss.take (i + 1)).flatMap N2 = (z5 0 C.os ++ (C.ss.take i).flatMap N2) ++ N2 C.ss[i] := by rw [a6V hil, l_q]
  have hx := k4.1 _ (l_v hil)
  have hl2 := a2V (ss := C.ss.take i) fun s hs => k4.1 s (a0S hs)
  have hl3 := a5p k4.1 (i + 1)
  rw [X1 hil] at hl3
  generalize C.ss[i] = x at *
  obtain ⟨_, _, hx0, hx1⟩ := hx
  have hPl : ((z5 0 C.os ++ (C.ss.take i).flatMap N2).length : Int) + x.count ≤ 200 := by rw [l_m]; omega
  generalize z5 0 C.os ++ (C.ss.take i).flatMap N2 = P at *
  obtain ⟨b, off, hA, hr1⟩ := hrx S.tl.tl
  have hq2 := rP hr1 2 (by omega)
  simp only [Sup.enc, l_o, l_p] at hq2
  ((try clear F); have F := S.fx)
  refine Wg e1 e125 F @Cfg.enc.eq_1 hA hq2 ?_
  refine lI (fun ρ' h' => ρ' 1 = .pointer (some ⟨g, 0, none⟩) ∧ ρ' 124 = ρ 124 ∧ ρ' 125 = ρ 125 ∧ ρ' 13 = .int .i64 i ∧ ρ' 133 = .int .i64 x.count ∧ ∃ j : Nat, ρ' 134 = .int .i64 j ∧ j ≤ x.count.toNat ∧
   ∃ (Au : Option Addr) (cu : Nat), ρ' 3 = .slice Au (P.length + j) cu ∧
   St h0 h' (f9 Unt.enc 4 67 (.slice Au (P.length + j) cu) (P ++ List.replicate j ⟨-1, x.sku, 0, x.price⟩) :: f8 g C.enc 26 :: l)) (fun ρ' _ => x.count.toNat - (iv (ρ' 134)).toNat) ?_ ?_
  ·refine Wc e1 e125 ?_
   exact ⟨0, rfl, by omega, Au, cu, e3, by simp only [List.replicate_zero, C4, T2]; exact S⟩
  have p124 := e124
  have p125 := e125
  clear S F e1 e124 e125 e3 hr1 hq2
  rintro ρ' h J' hJ' ⟨e1, e124, e125, e13, e133, j, e134, hj, Au, cu, e3, S⟩
  refine Wc e133 e134 ?_
  refine cD (fun hlt2 => ?_) (fun hlt2 => ?_)
  ·have hjl : j < x.count.toNat := by omega
   have er2 : P ++ List.replicate j (⟨-1, x.sku, 0, x.price⟩ : Unt) ++ [⟨-1, x.sku, 0, x.price⟩] = P ++ List.replicate (j + 1) ⟨-1, x.sku, 0, x.price⟩ := by rw [l_q, ← List.replicate_succ']
   have hll : (P ++ List.replicate j (⟨-1, x.sku, 0, x.price⟩ : Unt)).length = P.length + j := by rw [l_m, C1]
   have hll2 : (P ++ List.replicate (j + 1) (⟨-1, x.sku, 0, x.price⟩ : Unt)).length = P.length + (j + 1) := by rw [l_m, C1]
   obtain ⟨b3, off3, hA3, hr3⟩ := hrx S.tl.tl
   have hq0 := rP0 hr3 (by omega)
   have hq1 := rP hr3 1 (by omega)
   simp only [Sup.enc, l_o, l_p] at hq0 hq1
   ((try clear F); have F := S.fx)
   refine Wa ?_
   refine dE ?_
   refine Wi e3 e1 e13 F @Cfg.enc.eq_1 hA3 hq0 hq1 ?_
   (revert S; (try clear F); refine AL fun r1 h S F => ?_)
   refine Wa ?_
   refine tA1 (bytes := 32) (x := (⟨-1, x.sku, 0, x.price⟩ : Unt)) Unt.enc_len (by omega) Unt.enc_plain rfl rfl S (by omega) (by omega) ?_
   clear S F hq0 hq1 hr3
   intro v h S
   rw [er2] at S
   obtain ⟨Au, cu, rfl⟩ := S.sl
   rw [hll2] at S ⊢
   refine Wb e134 ?_
   refine hJ' _ _ ?_ ?_
   ·refine Wf e1 e124 e125 e13 e133 ?_
    exact ⟨j + 1, rfl, by omega, Au, cu, rfl, S⟩
   ·refine Wb e134 ?_
    omega
  ·obtain rfl : j = x.count.toNat := by omega
   have hrp : P ++ List.replicate x.count.toNat (⟨-1, x.sku, 0, x.price⟩ : Unt) = P ++ N2 x := rfl
   have hll : (P ++ N2 x).length = P.length + x.count.toNat := by rw [l_m, N2, C1]
   rw [hrp] at S
   refine Wc e125 p125 ?_
   refine hJ _ _ ?_ ?_
   ·refine Wd e1 e124 p124 ?_
    exact ⟨i + 1, rfl, by omega, Au, cu, by rw [hs1, hll]; exact e3, by rw [hs1, hll]; exact S⟩
   ·refine Wb p125 ?_
    omega
 obtain rfl : i = C.ss.length := by omega
 rw [E8] at e3 S
 refine Wb e3 ?_
 exact hK _ _ S.d1
end
end
section
set_option maxHeartbeats 8000000
def c0m (C : Cfg) : Prop := C.os.length ≤ 40 ∧ C.ss.length ≤ 40 ∧ C.ps.length ≤ 40 ∧ ∀ o ∈ C.os, o.ls.length ≤ 20
theorem c0u {h0 : c9} (C : Cfg) (r : C.rd h0) (w : C.wf) :
  d8 Tryz.prog 24 [.agg C.enc.toArray] h0 fun v h' => v = .bool (dcd (c0m C)) ∧ Fr h0 h' [] := by
 have S := St.nil h0
 have r' : ∀ {h' : c9} {l : List HP}, St h0 h' l → C.rd h' := fun S => r.fr S.fr
 have hw := w.l1
 have hw2 := w.m1
 by_cases d1 : 40 < (C.os.length : Int)
 ·refine EN i24.eq_1 fun K hK => Wa ?_
  (revert S; (try clear F); refine AL fun g h S F => ?_)
  refine Wd F @Cfg.enc.eq_1 d1 ?_
  exact hK _ _ ⟨by rw [dF (fun h => by have := h.1; omega)], S.fr⟩
 by_cases d2 : 40 < (C.ss.length : Int)
 ·refine EN i24.eq_1 fun K hK => Wa ?_
  (revert S; (try clear F); refine AL fun g h S F => ?_)
  refine We F @Cfg.enc.eq_1 d1 d2 ?_
  exact hK _ _ ⟨by rw [dF (fun h => by have := h.2.1; omega)], S.fr⟩
 by_cases d3 : 40 < (C.ps.length : Int)
 ·refine EN i24.eq_1 fun K hK => Wa ?_
  (revert S; (try clear F); refine AL fun g h S F => ?_)
  refine Wf F @Cfg.enc.eq_1 d1 d2 d3 ?_
  exact hK _ _ ⟨by rw [dF (fun h => by have := h.2.2.1; omega)], S.fr⟩
 refine EN i24.eq_1 fun K hK => Wa ?_
 (revert S; (try clear F); refine AL fun g h S F => ?_)
 refine Wf F @Cfg.enc.eq_1 d1 d2 d3 ?_
 refine lI (fun ρ h' => ρ 1 = .pointer (some ⟨g, 0, none⟩) ∧ ρ 22 = .int .i64 C.os.length ∧ ∃ i : Nat, ρ 23 = .int .i64 i ∧ i ≤ C.os.length ∧ (∀ o ∈ C.os.take i, o.ls.length ≤ 20) ∧ St h0 h' [f8 g C.enc 26]) (fun ρ _ => C.os.length - (iv (ρ 23)).toNat) ?_ ?_
 ·refine Wa ?_
  exact ⟨0, rfl, by omega, by simp, S⟩
 clear S F
 rintro ρ h J hJ ⟨e1, e22, i, e23, hi, hok, S⟩
 refine Wc e22 e23 ?_
 refine cD (fun hlt => ?_) (fun hlt => ?_)
 ·have hil : i < C.os.length := by omega
  obtain ⟨b, off, hA, hr1⟩ := (r' S).os.at hil
  have hmem := l_v hil
  have htk : C.os[i].ls.length ≤ 20 → ∀ o ∈ C.os.take (i + 1), o.ls.length ≤ 20 := fun hx o ho => by
   rw [l_t hil] at ho
   rcases List.mem_append.1 ho with ho | ho
   ·exact hok o ho
   ·rw [Q9] at ho; rw [ho]; exact hx
  generalize C.os[i] = o at *
  have hq1 := rP hr1 1 (by omega)
  simp only [Odr.enc, l_o, l_p] at hq1
  ((try clear F); have F := S.fx)
  by_cases d4 : 20 < (o.ls.length : Int)
  ·refine Wh e1 e23 F @Cfg.enc.eq_1 hA hq1 d4 ?_
   exact hK _ _ ⟨by rw [dF (fun h => by have := h.2.2.2 _ hmem; omega)], S.fr⟩
  ·refine Wh e1 e23 F @Cfg.enc.eq_1 hA hq1 d4 ?_
   refine hJ _ _ ?_ ?_
   ·refine Wc e1 e22 ?_
    exact ⟨i + 1, rfl, by omega, htk (by omega), S⟩
   ·refine Wb e23 ?_
    omega
 ·obtain rfl : i = C.os.length := by omega
  rw [E8] at hok
  refine Wa ?_
  exact hK _ _ ⟨by rw [dT ⟨by omega, by omega, by omega, hok⟩], S.fr⟩
theorem a2C {C : Cfg} (hok : C8 C) : ((l6 C).length : Int) = a3V C ∧ (l6 C).length ≤ 200 := by
 have h1 := U0 (os := C.os) 0 hok.okO
 have h2 := a2V hok.2.2.2.2.1.1
 have h3 := hok.2.2.2.2.2
 have ht : a3V C = u2 C.os + z0 C.ss := rfl
 rw [l6, l_m]
 omega
def c0C : Cfg := ⟨none, 0, [], none, 0, [], none, 0, []⟩
theorem b9j : C8 c0C := ⟨⟨by decide, by simp [c0C]⟩, by decide, by decide, by simp [c0C], ⟨by simp [c0C], by simp [c0C]⟩, by decide⟩
end
section
set_option maxHeartbeats 4000000
theorem b6R {α : Type} (f : α → Nat) {a b : List α} (h : a.Perm b) : (a.map f).sum = (b.map f).sum := by
 induction h with
 | nil => rfl
 | cons x _ ih => simp only [G0, F3, ih]
 | swap x y l => simp only [G0, F3]; omega
 | trans _ _ ih1 ih2 => rw [ih1, ih2]
theorem a2k {α : Type} (f : α → Nat) (M : Nat) : ∀ {T : List α}, (∀ z ∈ T, f z ≤ M) → (T.map f).sum ≤ T.length * M ∧ ∀ x ∈ T, f x = 0 → (T.map f).sum + M ≤ T.length * M
 | [], _ => ⟨by simp, fun x hx => by cases hx⟩
 | y :: T, h => by
  obtain ⟨h1, h2⟩ := a2k f M (T := T) fun z hz => h z (by simp [hz])
  have hy := h y (by simp)
  simp only [G0, F3, l_f, Nat.succ_mul]
  refine ⟨by omega, fun x hx h0 => ?_⟩
  rcases List.mem_cons.1 hx with rfl | hx
  ·omega
  ·have := h2 x hx h0; omega
theorem E4.le {sum all : Nat} {ws : List Nat} {out : List Int} (H : E4 sum all ws out) (hall : 0 < all) (he : ws.sum = all) (hle : sum ≤ all) : ∀ i (hi : i < ws.length), out.getD i 0 ≤ (ws[i] : Nat) := by
 obtain ⟨Z, hp, hs, rfl⟩ := H
 obtain ⟨hl1, hl2⟩ := a1i hall he (sum := sum)
 have hZl : Z.length = ws.length := by rw [hp.length_eq, a1H]
 have hql : ((t8 sum all ws).map Int.ofNat).length = ws.length := by rw [l_z, V1]
 have hZd : ∀ z ∈ Z, 0 ≤ z ∧ z < (((t8 sum all ws).map Int.ofNat).length : Int) := fun z hz => by rw [hql]; exact T6.1 (hp.mem_iff.1 hz)
 have hZn : Z.Nodup := hp.nodup_iff.2 (P9 _)
 have htd : ∀ z ∈ Z.take (sum - (t8 sum all ws).sum), 0 ≤ z ∧ z < (((t8 sum all ws).map Int.ofNat).length : Int) := fun z hz => hZd z (a0S hz)
 have hg := a8O _ _ (hZn.sublist (List.take_sublist (sum - (t8 sum all ws).sum) Z)) htd
 intro i hi
 have hq : ((t8 sum all ws).map Int.ofNat).getD i 0 = ((sum * ws[i] / all : Nat) : Int) := by
  rw [l_s, l_r (by rw [hql]; exact hi)]
  simp only [t8, W4]
  rfl
 rw [hg i (by rw [hql]; exact hi), hq]
 have hqr := a8z sum all ws
 rw [he] at hqr
 by_cases c1 : sum = all
 ·have hqw : t8 sum all ws = ws := by
   rw [t8, c1]
   conv => rhs; rw [← List.map_id ws]
   exact List.map_congr_left fun w _ => by rw [U5, Nat.mul_div_cancel _ hall]; rfl
  rw [hqw, he, c1, Nat.sub_self, a0t, if_neg (by simp), U5, Nat.mul_div_cancel _ hall]
  omega
 ·by_cases c2 : ws[i] = 0
  ·rw [if_neg, c2, Nat.mul_zero, Nat.zero_div]
   ·simp
   ·intro hm
    have hr0 : (y8 sum all ws).getD ((i : Int).toNat) 0 = 0 := by
     simp only [M7, y8, l_s, a1R, l_r hi, c2]
     simp
    have hrl : ∀ z : Int, (y8 sum all ws).getD z.toNat 0 ≤ all - 1 := fun z => by
     rw [l_s, y8, a1R]
     cases ws[z.toNat]? with
     | none => simp
     | some w =>
      have := Nat.mod_lt (sum * w) hall
      simp only [Option.map_some, Option.getD_some]
      omega
    have hsz : (Z.map fun z : Int => (y8 sum all ws).getD z.toNat 0).sum = (y8 sum all ws).sum := by
     rw [b6R _ hp]
     congr 1
     apply List.ext_getElem
     ·simp [J7, y8]
     ·intro k h1 h2
      simp only [J7, W4, List.getElem_range]
      show (y8 sum all ws).getD ((k : Int).toNat) 0 = _
      rw [M7, l_s, l_r h2]
      rfl
    have hcut : (Z.map fun z : Int => (y8 sum all ws).getD z.toNat 0).sum = ((Z.take (sum - (t8 sum all ws).sum)).map fun z : Int => (y8 sum all ws).getD z.toNat 0).sum + ((Z.drop (sum - (t8 sum all ws).sum)).map fun z : Int => (y8 sum all ws).getD z.toNat 0).sum := by
     conv => lhs; rw [← C6 (sum - (t8 sum all ws).sum) Z, N5, a0o]
    have hdr : ∀ z ∈ Z.drop (sum - (t8 sum all ws).sum), (y8 sum all ws).getD z.toNat 0 ≤ 0 := fun z hz => by
     rw [← C6 (sum - (t8 sum all ws).sum) Z] at hs
     have hrk := (List.pairwise_append.1 hs).2.2 _ hm z hz
     unfold Rk at hrk
     simp only at hrk
     omega
    have h3 := (a2k (fun z : Int => (y8 sum all ws).getD z.toNat 0) 0 hdr).1
    have h4 := (a2k (fun z : Int => (y8 sum all ws).getD z.toNat 0) (all - 1) (T := Z.take (sum - (t8 sum all ws).sum)) fun z _ => hrl z).2 _ hm hr0
    rw [u6, Nat.min_eq_left (by omega)] at h4
    obtain ⟨d, hd⟩ : ∃ d, sum = (t8 sum all ws).sum + d := ⟨sum - (t8 sum all ws).sum, by omega⟩
    have hd2 : sum - (t8 sum all ws).sum = d := by omega
    rw [hd2] at h3 h4 hcut hm
    obtain ⟨m, hm1⟩ : ∃ m, all = m + 1 := ⟨all - 1, by omega⟩
    have h5 : d * all = (y8 sum all ws).sum := by
     have h6 : sum * all = (t8 sum all ws).sum * all + d * all := by
      conv => lhs; rw [hd, M1]
     omega
    rw [hsz] at hcut
    have h7 : d * all = d * (all - 1) + d := by rw [hm1, a3O, Nat.mul_succ]
    have h8 : d = 0 := by omega
    rw [h8] at hm
    simp at hm
  ·have hlt : sum * ws[i] < all * ws[i] := Nat.mul_lt_mul_of_pos_right (by omega) (by omega)
   have hq2 : sum * ws[i] / all < ws[i] := (Nat.div_lt_iff_lt_mul hall).2 (by rw [U5 (ws[i])]; exact hlt)
   split <;> omega
theorem c0e {s : Nat} {P : List Int} (hask : H2 s P = 0) (hle : (s : Int) ≤ P.sum) {k : Nat} (hk : k < P.length) (hk2 : k < (shF s P).length) : (shF s P)[k] ≤ P[k] := by
 obtain ⟨hw0, hw1, hf, hs0, hs1, hs2, hs3⟩ := b3E hask
 by_cases hz : P.sum = 0
 ·have h0 : s = 0 := by omega
  have := (a3f hask).2.2 _ (l_v hk2)
  have hp := (hf _ (l_v hk)).1
  omega
 ·obtain ⟨hep, _⟩ := a4Z hask
  have he : E0 P = P.map Int.toNat := by unfold E0; rw [if_neg hz]
  have hsum := a7d (P.map Int.toNat)
  rw [O6 hf] at hsum
  have hb := (a3Q s P).le hep rfl (by rw [he]; omega) k (by rw [a4K]; exact hk)
  rw [l_s, l_r hk2] at hb
  simp only [Option.getD_some, he, W4] at hb
  have hp := (hf _ (l_v hk)).1
  omega
theorem a9N {o : Odr} (h : OkO o) (i : Int) : ∀ u ∈ M9 o i, 0 ≤ u.share ∧ u.share ≤ 4294967296 := by
 intro u hu
 refine ⟨?_, by have := (a0H h i 3 u hu).2; omega⟩
 obtain ⟨k, hk, rfl⟩ := a0q hu
 have hl := a0p h i 3
 have hv := (G5 o.ls h.count).2.2 i
 have hk' : k < (j9 o.ls).length := by rw [← hl]; exact hk
 have e0 : (a1q o 0).toNat = o.disc.toNat := rfl
 have e1 : (a1q o 1).toNat = o.tax.toNat := rfl
 have e2 : (a1q o 2).toNat = o.ship.toNat := rfl
 have h0 := h.sh 0
 have h1 := h.sh 1
 have h2 := h.sh 2
 rw [e0] at h0
 rw [e1] at h1
 rw [e2] at h2
 rw [a4J h i (by omega) (by omega) (by omega) (by omega) hk]
 have b1 := h1.2.2 _ (l_v (l := shF o.tax.toNat (j9 o.ls)) (n := k) (by omega))
 have b2 := h2.2.2 _ (l_v (l := shF o.ship.toNat (j9 o.ls)) (n := k) (by omega))
 have hask := h.ask h.disc
 have hd0 := h.disc.1
 rw [← Int.toNat_of_nonneg hd0] at hask
 have b0 := c0e hask (by rw [(G5 o.ls h.count).2.1, Int.toNat_of_nonneg hd0]; exact h.le) hk' (by omega)
 have hp : ((z9 i o.ls)[k]'(by omega)).share = (j9 o.ls)[k] := by
  have := hv.2
  simp only [← this, W4]
 show 0 ≤ ((z9 i o.ls)[k]'(by omega)).share - _ + _ + _
 rw [hp]
 omega
theorem b4F {C : Cfg} (hok : C8 C) : ∀ u ∈ l6 C, 0 ≤ u.share ∧ u.share ≤ 4294967296 := by
 intro u hu
 rw [l6, l_y] at hu
 rcases hu with hu | hu
 ·have : ∀ (os : List Odr) (j : Nat), (∀ o ∈ os, OkO o) → ∀ u ∈ z5 j os, 0 ≤ u.share ∧ u.share ≤ 4294967296 := by
   intro os
   induction os with
   | nil => intro j _ u hu; cases hu
   | cons o os ih =>
    intro j h u hu
    rw [z5, l_y] at hu
    rcases hu with hu | hu
    ·exact a9N (h o (by simp)) j u hu
    ·exact ih (j + 1) (fun x hx => h x (by simp [hx])) u hu
  exact this C.os 0 hok.okO u hu
 ·simp only [List.mem_flatMap, N2, List.mem_replicate] at hu
  obtain ⟨s, hs, _, rfl⟩ := hu
  have := (hok.2.2.2.2.1.1 s hs).2.1
  exact ⟨this.1, by have := this.2; show s.price ≤ _; omega⟩
end
section
set_option maxHeartbeats 8000000
def B2 (ps : List Pol) (k : Int) : Pol := if 0 ≤ k then ps.getD k.toNat Pol.zero else Pol.zero
def l7 (U : List Unt) (u : Int) : Unt := U.getD u.toNat ⟨0, 0, 0, 0⟩
def L6 (ps : List Pol) (U : List Unt) (rea u g : Int) : Int := if g = 4 then (l7 U u).share else if 0 ≤ g then wrt (B2 ps (l7 U u).cat) (l7 U u).share rea g else 0
def K3 (ps : List Pol) (U : List Unt) (r : Ret) (i : Nat) : Int := (((r.us.zip r.gs).take i).map fun x => L6 ps U r.rea x.1 x.2).sum
def F6 (ps : List Pol) (U : List Unt) (r : Ret) : Int := ((r.us.zip r.gs).map fun x => L6 ps U r.rea x.1 x.2).sum
theorem a5v : Pol.zero.right := by
 simp [Pol.right, Pol.zero, M8, T1]
theorem O8 {ps : List Pol} (h : Y2 ps) (k : Int) : (B2 ps k).right := by
 unfold B2
 split
 ·rw [l_s]
  by_cases hk : k.toNat < ps.length
  ·rw [l_r hk]; exact h.2 _ (l_v hk)
  ·rw [a3b (by omega)]; exact a5v
 ·exact a5v
theorem b5b {ps : List Pol} {i : Nat} (hi : i < ps.length) : B2 ps (i : Int) = ps[i] := by
 rw [B2, if_pos (by omega), M7, l_s, l_r hi]; rfl
theorem b3A {ps : List Pol} {k : Int} (hk : k < 0 ∨ (ps.length : Int) ≤ k) : B2 ps k = Pol.zero := by
 unfold B2
 split
 ·rw [l_s, a3b (by omega)]; rfl
 ·rfl
def b3g (U : List Unt) : Prop := ∀ u ∈ U, 0 ≤ u.share ∧ u.share ≤ 4294967296
theorem L3 {U : List Unt} (h : b3g U) (u : Int) : 0 ≤ (l7 U u).share ∧ (l7 U u).share ≤ 4294967296 := by
 unfold l7
 rw [l_s]
 by_cases hk : u.toNat < U.length
 ·rw [l_r hk]; exact h _ (l_v hk)
 ·rw [a3b (by omega)]; exact ⟨by decide, by decide⟩
theorem a8K {ps : List Pol} {U : List Unt} (hp : Y2 ps) (hU : b3g U) (rea u g : Int) : 0 ≤ L6 ps U rea u g ∧ L6 ps U rea u g ≤ 4294967296 := by
 have h1 := L3 hU u
 unfold L6
 split
 ·exact h1
 ·split
  ·have := a6A (p := B2 ps (l7 U u).cat) (sh := (l7 U u).share) (r := rea) (g := g) (O8 hp _) h1.1
   omega
  ·omega
theorem a7f {ps : List Pol} {U : List Unt} {r : Ret} {i : Nat} (hl : r.gs.length = r.us.length) (hi : i < r.us.length) : K3 ps U r (i + 1) = K3 ps U r i + L6 ps U r.rea (r.us.getD i 0) (r.gs.getD i 0) := by
 have hz : i < (r.us.zip r.gs).length := by rw [List.length_zip]; omega
 unfold K3
 rw [l_t hz, N5, a0o, m8 hi, m8 (show i < r.gs.length by omega)]
 simp
theorem a4a {ps : List Pol} {U : List Unt} {r : Ret} (hl : r.gs.length = r.us.length) : K3 ps U r r.us.length = F6 ps U r := by
 unfold K3 F6
 rw [a1e (by rw [List.length_zip]; omega)]
theorem Y1 {ps : List Pol} {U : List Unt} {r : Ret} (hp : Y2 ps) (hU : b3g U) (i : Nat) : 0 ≤ K3 ps U r i ∧ K3 ps U r i ≤ 4294967296 * i := by
 have h : ∀ l : List (Int × Int), 0 ≤ (l.map fun x => L6 ps U r.rea x.1 x.2).sum ∧ (l.map fun x => L6 ps U r.rea x.1 x.2).sum ≤ 4294967296 * l.length := by
  intro l
  induction l with
  | nil => simp
  | cons x l ih =>
   have := a8K hp hU r.rea x.1 x.2
   rw [G0, F3, l_f]
   omega
 have h1 := h ((r.us.zip r.gs).take i)
 have h2 : ((r.us.zip r.gs).take i).length ≤ i := by rw [u6]; omega
 unfold K3
 omega
theorem b6o {h0 h : c9} {l : List HP} {A : Option Addr} {c : Nat} {xs : List Pol} (S : St h0 h l) (ha : ∀ h', St h0 h' l → Arr Pol.enc 16 h' A xs) (k : Int) :
  d8 Tryz.prog 121 [.slice A xs.length c, .int .i64 k] h fun v h' => St h0 h' l ∧ ∃ e, v = .tuple #[.agg (B2 xs k).enc.toArray, .int .i64 e] := by
 refine (c0F S ha k).mono ?_
 rintro v h' ⟨S, ⟨i, hi, rfl, rfl⟩ | ⟨hk, rfl⟩⟩
 ·exact ⟨S, 0, by rw [b5b hi]⟩
 ·exact ⟨S, 10, by rw [b3A hk]⟩
end
end Go.Proofs.YtcgbhcgfdcfmaaaGreat.MX
