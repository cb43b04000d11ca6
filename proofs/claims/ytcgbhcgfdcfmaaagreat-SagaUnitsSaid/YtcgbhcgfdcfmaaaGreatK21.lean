import Derived.Test.YtcgbhcgfdcfmaaaGreatK20
namespace Go.Proofs.YtcgbhcgfdcfmaaaGreat.MX
open Go Go.Proofs
set_option linter.unusedSimpArgs false
set_option linter.unusedVariables false
section
set_option maxHeartbeats 8000000
theorem cnt_le {k : Int} : ∀ {os : List Odr}, (∀ o ∈ os, okOrder k o) → ∀ o ∈ os, cntOf o.ls ≤ ordSum os
 | [], _, o, ho => by cases ho
 | x :: os, h, o, ho => by
  have h1 := all_bound (h x (by simp)).2.1
  have h2 := ord_bound (os := os) fun y hy => h y (by simp [hy])
  have h3 := cnt_le (os := os) fun y hy => h y (by simp [hy])
  simp only [ordSum, List.map_cons, List.sum_cons] at h2 h3 ⊢
  rcases List.mem_cons.1 ho with rfl | ho
  ·omega
  ·have := h3 o ho; omega
theorem okCfg.okO {C : Cfg} (h : okCfg C) : ∀ o ∈ C.os, OkO o := fun o ho => by
 obtain ⟨_, h1, h2, h3, h4, h5⟩ := h
 obtain ⟨⟨_, ⟨n0, n1⟩, d, t, s⟩, hl, hd⟩ := h3 o ho
 have hc := cnt_le h3 o ho
 have hs := sup_bound h4.1
 have ht : totOf C = ordSum C.os + supSum C.ss := rfl
 exact ⟨⟨_, hl⟩, n0, n1, by omega, d, t, s, hd⟩
theorem unitsOf_len {o : Odr} (h : OkO o) (i : Int) : ((unitsOf o i).length : Int) = cntOf o.ls := by
 rw [unitsOf, unitsR_len h, (len_sum o.ls h.count).1]
theorem ordsU_len : ∀ {os : List Odr} (i : Nat), (∀ o ∈ os, OkO o) → ((ordsU i os).length : Int) = ordSum os
 | [], i, _ => rfl
 | x :: os, i, h => by
  have h1 := unitsOf_len (h x (by simp)) i
  have h2 := ordsU_len (os := os) (i + 1) fun y hy => h y (by simp [hy])
  simp only [ordsU, l_m, ordSum, List.map_cons, List.sum_cons] at h2 ⊢
  omega
theorem ordsU_snoc {os : List Odr} {i : Nat} (hi : i < os.length) : ordsU 0 (os.take (i + 1)) = ordsU 0 (os.take i) ++ unitsOf os[i] i := by
 rw [l_t hi, ordsU_app, l_ad, Nat.min_eq_left (by omega)]
 simp [ordsU]
theorem supU_snoc {ss : List Sup} {i : Nat} (hi : i < ss.length) : (ss.take (i + 1)).flatMap supU = (ss.take i).flatMap supU ++ supU ss[i] := by
 rw [l_t hi, List.flatMap_append]
 simp
theorem supU_len : ∀ {ss : List Sup}, (∀ s ∈ ss, okSup s) → ((ss.flatMap supU).length : Int) = supSum ss
 | [], _ => rfl
 | x :: ss, h => by
  have h1 := (h x (by simp)).2.2
  have h2 := supU_len (ss := ss) fun y hy => h y (by simp [hy])
  simp only [List.flatMap_cons, l_m, supU, l_ah, supSum, List.map_cons, List.sum_cons] at h2 ⊢
  omega
theorem sumTake_le {k : Int} {os : List Odr} (h : ∀ o ∈ os, okOrder k o) (i : Nat) : ordSum (os.take i) ≤ ordSum os := by
 have h1 := ord_bound (os := os.drop i) fun o ho => h o (List.mem_of_mem_drop ho)
 have : ordSum os = ordSum (os.take i) + ordSum (os.drop i) := by
  conv => lhs; rw [← List.take_append_drop i os]
  rw [ordSum, l_al, List.sum_append]; rfl
 omega
theorem supTake_le {ss : List Sup} (h : ∀ s ∈ ss, okSup s) (i : Nat) : supSum (ss.take i) ≤ supSum ss := by
 have h1 := sup_bound (ss := ss.drop i) fun o ho => h o (List.mem_of_mem_drop ho)
 have : supSum ss = supSum (ss.take i) + supSum (ss.drop i) := by
  conv => lhs; rw [← List.take_append_drop i ss]
  rw [supSum, l_al, List.sum_append]; rfl
 omega
section
variable {h0 h : Heap} {l : List HP}
theorem OUnits_ok (C : Cfg) (r : ∀ h', St h0 h' l → C.rd h') (w : C.wf) (l1 : C.os.length < 1000000) (l2 : C.ss.length < 1000000) (l3 : C.ps.length < 1000000) (l4 : ∀ o ∈ C.os, o.ls.length < 1000000) (S : St h0 h l) :
  CallsH Tryz.prog 25 [.agg C.enc.toArray] h fun v h' => (¬ okCfg C ∧ v = .tuple #[.slice none 0 0, .int .i64 1] ∧ St h0 h' l) ∨ (okCfg C ∧ ∃ s, v = .tuple #[s, .int .i64 0] ∧ St h0 h' (ownA Unt.enc 4 72 s (unitsAll C) :: l)) := by
 refine EN i25.eq_1 fun K hK => Wa ?_
 (revert S; (try clear F); refine AL fun g h S F => ?_)
 refine Wc F @Cfg.enc.eq_1 ?_
 have hR := ORight_ok C (r h S.tl) w l1 l2 l3 l4
 rw [show [Value.slice C.A1 C.os.length C.c1, Value.slice C.A2 C.ss.length C.c2, Value.slice C.A3 C.ps.length C.c3] = C.enc from rfl]
 refine cI hR ?_
 rintro _ h ⟨rfl, hf⟩
 have S := S.frame hf
 by_cases hok : okCfg C
 case neg =>
  rw [dF hok]
  refine Wa ?_
  exact hK _ _ (.inl ⟨hok, rfl, S.tl⟩)
 rw [dT hok]
 obtain ⟨_, k1, k2, k3, k4, k5⟩ := id hok
 have hOk := hok.okO
 have ht : totOf C = ordSum C.os + supSum C.ss := rfl
 have hob := ord_bound k3
 have hsb := sup_bound k4.1
 ((try clear F); have F := S.fx)
 have S : St h0 h (ownA Unt.enc 4 72 (.slice none 0 0) [] :: _) := S.nilS
 refine Wc F @Cfg.enc.eq_1 ?_
 refine lI (fun ρ h' => ρ 1 = .pointer (some ⟨g, 0, none⟩) ∧ ρ 13 = .slice C.A1 C.os.length C.c1 ∧ ρ 14 = .int .i64 C.os.length ∧ ∃ i : Nat, ρ 15 = .int .i64 i ∧ i ≤ C.os.length ∧ ∃ (Au : Option Addr) (cu : Nat), ρ 4 = .slice Au (ordsU 0 (C.os.take i)).length cu ∧
  St h0 h' (ownA Unt.enc 4 72 (.slice Au (ordsU 0 (C.os.take i)).length cu) (ordsU 0 (C.os.take i)) :: cellA g C.enc 26 :: l)) (fun ρ _ => C.os.length - (iv (ρ 15)).toNat) ?_ ?_
 ·refine Wa ?_
  exact ⟨0, rfl, by omega, none, 0, rfl, S⟩
 clear S F hR
 rintro ρ h J hJ ⟨e1, e13, e14, i, e15, hi, Au, cu, e4, S⟩
 refine Wc e14 e15 ?_
 refine cD (fun hlt => ?_) (fun hlt => ?_)
 ·have hil : i < C.os.length := by omega
  obtain ⟨b, off, hA, hr1⟩ := (r _ S.tl.tl).os.at hil
  have hmem := l_v hil
  have hs1 := ordsU_snoc hil
  have hrl := fun {h'} (S : St h0 h' l) => (r _ S).ls _ hmem
  have hO := hOk _ hmem
  have hul := unitsOf_len hO i
  have hlen := ordsU_len (os := C.os.take i) 0 fun o ho => hOk o (List.mem_of_mem_take ho)
  have hle := sumTake_le k3 i
  generalize C.os[i] = o at *
  generalize ordsU 0 (C.os.take i) = U at *
  have hcn := hO.cnt
  have ho8 := hO.n1
  refine We e13 e15 hA hr1 ?_
  (revert S; (try clear F); refine AL fun q h S F => ?_)
  refine Wc F @Odr.enc.eq_1 ?_
  (revert S; (try clear F); refine ST fun h S F => ?_)
  refine Wc e4 F ?_
  refine cI (units_ok o i hO (fun h' S => hrl S.tl.tl.tl) S) ?_
  clear S F hr1
  intro v h S
  obtain ⟨Av, cv, rfl⟩ := S.sl
  refine Wa ?_
  refine tAp (bytes := 32) (ys := unitsOf o i) Unt.enc_len (by omega) Unt.enc_plain rfl S.p2 rfl (src_arr Unt.enc_len (S.arr Unt.enc_len) rfl) (by omega) (by omega) ?_
  clear S
  intro v h S
  rw [← hs1] at S
  obtain ⟨Au, cu, rfl⟩ := S.sl
  refine Wb e15 ?_
  refine hJ _ _ ?_ ?_
  ·refine We e1 e13 e14 hA ?_
   exact ⟨i + 1, rfl, by omega, Au, cu, rfl, S.d1.d1⟩
  ·refine Wb e15 ?_
   omega
 obtain rfl : i = C.os.length := by omega
 rw [l_aj] at e4 S
 have hlen := ordsU_len (os := C.os) 0 hOk
 clear hJ
 ((try clear F); have F := S.fx)
 refine Wd e1 F @Cfg.enc.eq_1 ?_
 refine lI (fun ρ h' => ρ 27 = .slice C.A2 C.ss.length C.c2 ∧ ρ 28 = .int .i64 C.ss.length ∧ ∃ i : Nat, ρ 29 = .int .i64 i ∧ i ≤ C.ss.length ∧ ∃ (Au : Option Addr) (cu : Nat), ρ 4 = .slice Au (ordsU 0 C.os ++ (C.ss.take i).flatMap supU).length cu ∧
  St h0 h' (ownA Unt.enc 4 72 (.slice Au (ordsU 0 C.os ++ (C.ss.take i).flatMap supU).length cu) (ordsU 0 C.os ++ (C.ss.take i).flatMap supU) :: l)) (fun ρ _ => C.ss.length - (iv (ρ 29)).toNat) ?_ ?_
 ·refine Wa ?_
  exact ⟨0, rfl, by omega, Au, cu, by simp [e4], by simpa using S.d1⟩
 clear S F e1 e13 e14 e15 e4
 rintro ρ h J hJ ⟨e27, e28, i, e29, hi, Au, cu, e4, S⟩
 refine Wc e28 e29 ?_
 refine cD (fun hlt => ?_) (fun hlt => ?_)
 ·have hil : i < C.ss.length := by omega
  obtain ⟨b, off, hA, hr1⟩ := (r _ S.tl).ss.at hil
  have hs1 : ordsU 0 C.os ++ (C.ss.take (i + 1)).flatMap supU = (ordsU 0 C.os ++ (C.ss.take i).flatMap supU) ++ supU C.ss[i] := by rw [supU_snoc hil, l_q]
  have hx := k4.1 _ (l_v hil)
  have hl2 := supU_len (ss := C.ss.take i) fun s hs => k4.1 s (List.mem_of_mem_take hs)
  have hl3 := supTake_le k4.1 (i + 1)
  rw [supSum_snoc hil] at hl3
  generalize C.ss[i] = x at *
  obtain ⟨_, _, hx0, hx1⟩ := hx
  have hPl : ((ordsU 0 C.os ++ (C.ss.take i).flatMap supU).length : Int) + x.count ≤ 200 := by rw [l_m]; omega
  generalize ordsU 0 C.os ++ (C.ss.take i).flatMap supU = P at *
  refine We e27 e29 hA hr1 ?_
  (revert S; (try clear F); refine AL fun q h S F => ?_)
  refine Wc F @Sup.enc.eq_1 ?_
  (revert S; (try clear F); refine ST fun h S F => ?_)
  refine Wb F ?_
  refine lI (fun ρ' h' => ρ' 27 = ρ 27 ∧ ρ' 28 = ρ 28 ∧ ρ' 29 = ρ 29 ∧ ρ' 8 = .pointer (some ⟨q, 0, none⟩) ∧ ρ' 34 = .int .i64 x.count ∧ ∃ j : Nat, ρ' 35 = .int .i64 j ∧ j ≤ x.count.toNat ∧
   ∃ (Au : Option Addr) (cu : Nat), ρ' 4 = .slice Au (P.length + j) cu ∧
   St h0 h' (ownA Unt.enc 4 72 (.slice Au (P.length + j) cu) (P ++ List.replicate j ⟨-1, x.sku, 0, x.price⟩) :: cellA q x.enc 95 :: l)) (fun ρ' _ => x.count.toNat - (iv (ρ' 35)).toNat) ?_ ?_
  ·refine Wb e4 ?_
   exact ⟨0, rfl, by omega, Au, cu, rfl, by simp only [List.replicate_zero, l_am, Nat.add_zero]; exact S.p1⟩
  have p27 := e27
  have p28 := e28
  have p29 := e29
  clear S F e27 e28 e29 e4 hr1
  rintro ρ' h J' hJ' ⟨e27, e28, e29, e8, e34, j, e35, hj, Au, cu, e4, S⟩
  refine Wc e34 e35 ?_
  refine cD (fun hlt2 => ?_) (fun hlt2 => ?_)
  ·have hjl : j < x.count.toNat := by omega
   have er2 : P ++ List.replicate j (⟨-1, x.sku, 0, x.price⟩ : Unt) ++ [⟨-1, x.sku, 0, x.price⟩] = P ++ List.replicate (j + 1) ⟨-1, x.sku, 0, x.price⟩ := by rw [l_q, ← List.replicate_succ']
   have hll : (P ++ List.replicate j (⟨-1, x.sku, 0, x.price⟩ : Unt)).length = P.length + j := by rw [l_m, l_ah]
   have hll2 : (P ++ List.replicate (j + 1) (⟨-1, x.sku, 0, x.price⟩ : Unt)).length = P.length + (j + 1) := by rw [l_m, l_ah]
   ((try clear F); have F := S.fx)
   refine We e8 F @Sup.enc.eq_1 e4 ?_
   (revert S; (try clear F); refine AL fun r1 h S F => ?_)
   refine Wa ?_
   refine tA1 (bytes := 32) (x := (⟨-1, x.sku, 0, x.price⟩ : Unt)) Unt.enc_len (by omega) Unt.enc_plain rfl rfl S (by omega) (by omega) ?_
   clear S F
   intro v h S
   rw [er2] at S
   obtain ⟨Au, cu, rfl⟩ := S.sl
   rw [hll2] at S ⊢
   refine Wb e35 ?_
   refine hJ' _ _ ?_ ?_
   ·refine Wf e27 e28 e29 e8 e34 ?_
    exact ⟨j + 1, rfl, by omega, Au, cu, rfl, S⟩
   ·refine Wb e35 ?_
    omega
  ·obtain rfl : j = x.count.toNat := by omega
   have hrp : P ++ List.replicate x.count.toNat (⟨-1, x.sku, 0, x.price⟩ : Unt) = P ++ supU x := rfl
   have hll : (P ++ supU x).length = P.length + x.count.toNat := by rw [l_m, supU, l_ah]
   rw [hrp] at S
   refine Wc e29 p29 ?_
   refine hJ _ _ ?_ ?_
   ·refine We e27 p27 e28 p28 ?_
    exact ⟨i + 1, rfl, by omega, Au, cu, by rw [hs1, hll]; exact e4, by rw [hs1, hll]; exact S.d1⟩
   ·refine Wb p29 ?_
    omega
 obtain rfl : i = C.ss.length := by omega
 rw [l_aj] at e4 S
 refine Wb e4 ?_
 exact hK _ _ (.inr ⟨hok, _, rfl, S⟩)
end
end
section
set_option maxHeartbeats 16000000
theorem unitsOf_at {o : Odr} (h : OkO o) (i : Int) {k : Nat} (hk : k < (expandU i o.ls).length) (h1 : k < (shF o.disc.toNat (priceL o.ls)).length) (h2 : k < (shF o.tax.toNat (priceL o.ls)).length) (h3 : k < (shF o.ship.toNat (priceL o.ls)).length) (h4 : k < (unitsOf o i).length) :
  (unitsOf o i)[k] = { (expandU i o.ls)[k] with share := (expandU i o.ls)[k].share - (shF o.disc.toNat (priceL o.ls))[k] + (shF o.tax.toNat (priceL o.ls))[k] + (shF o.ship.toNat (priceL o.ls))[k] } := by
 simp only [unitsOf, unitsR, addS, List.getElem_zipWith, psum, psgn]
 congr 1
 omega
section
variable {h0 h : Heap} {l : List HP}
theorem RUnits_ok (C : Cfg) (r : ∀ h', St h0 h' l → C.rd h') (hok : okCfg C) (S : St h0 h l) :
  CallsH Tryz.prog 13 [.agg C.enc.toArray] h fun v h' => St h0 h' (ownA Unt.enc 4 67 v (unitsAll C) :: l) := by
 obtain ⟨_, k1, k2, k3, k4, k5⟩ := id hok
 have hOk := hok.okO
 have ht : totOf C = ordSum C.os + supSum C.ss := rfl
 have hob := ord_bound k3
 have hsb := sup_bound k4.1
 refine EN i13.eq_1 fun K hK => Wa ?_
 (revert S; (try clear F); refine AL fun g h S F => ?_)
 have S : St h0 h (ownA Unt.enc 4 67 (.slice none 0 0) [] :: _) := S.nilS
 refine Wc F @Cfg.enc.eq_1 ?_
 refine lI (fun ρ h' => ρ 1 = .pointer (some ⟨g, 0, none⟩) ∧ ρ 16 = .int .i64 C.os.length ∧ ∃ i : Nat, ρ 17 = .int .i64 i ∧ i ≤ C.os.length ∧ ∃ (Au : Option Addr) (cu : Nat), ρ 3 = .slice Au (ordsU 0 (C.os.take i)).length cu ∧
  St h0 h' (ownA Unt.enc 4 67 (.slice Au (ordsU 0 (C.os.take i)).length cu) (ordsU 0 (C.os.take i)) :: cellA g C.enc 26 :: l)) (fun ρ _ => C.os.length - (iv (ρ 17)).toNat) ?_ ?_
 ·refine Wa ?_
  exact ⟨0, rfl, by omega, none, 0, rfl, S⟩
 clear S F
 rintro ρ h J hJ ⟨e1, e16, i, e17, hi, Au, cu, e3, S⟩
 refine Wc e16 e17 ?_
 refine cD (fun hlt => ?_) (fun hlt => ?_)
 ·have hil : i < C.os.length := by omega
  obtain ⟨b, off, hA, hr1⟩ := (r _ S.tl.tl).os.at hil
  have hmem := l_v hil
  have hs1 := ordsU_snoc hil
  have hrl := fun {h'} (S : St h0 h' l) => (r _ S).ls _ hmem
  have hO := hOk _ hmem
  have hul := unitsOf_len hO i
  have hlen := ordsU_len (os := C.os.take i) 0 fun o ho => hOk o (List.mem_of_mem_take ho)
  have hle := sumTake_le k3 i
  generalize C.os[i] = o at *
  generalize ordsU 0 (C.os.take i) = U at *
  have hcn := hO.cnt
  have ho8 := hO.n1
  obtain ⟨kk, hlk⟩ := hO.ls
  ((try clear F); have F := S.fx)
  refine Wg e1 e17 F @Cfg.enc.eq_1 hA hr1 ?_
  (revert S; (try clear F); refine AL fun q h S F => ?_)
  refine Wc F @Odr.enc.eq_1 ?_
  (revert S; (try clear F); refine ST fun h S F => ?_)
  have S : St h0 h (ownA zEnc 1 2 (.slice none 0 0) [] :: _) := S.nilS
  refine Wc e3 F ?_
  refine lI (fun ρ' h' => ρ' 1 = ρ 1 ∧ ρ' 16 = ρ 16 ∧ ρ' 17 = ρ 17 ∧ ρ' 4 = .int .i64 i ∧ ρ' 5 = .pointer (some ⟨q, 0, none⟩) ∧ ρ' 7 = .int .i64 U.length ∧ ρ' 29 = .int .i64 o.ls.length ∧ ∃ k : Nat, ρ' 30 = .int .i64 k ∧ k ≤ o.ls.length ∧
   ∃ (Ap Au : Option Addr) (cp cu : Nat), ρ' 6 = .slice Ap (priceL (o.ls.take k)).length cp ∧ ρ' 3 = .slice Au (U.length + (priceL (o.ls.take k)).length) cu ∧
   St h0 h' (ownA zEnc 1 2 (.slice Ap (priceL (o.ls.take k)).length cp) (priceL (o.ls.take k)) :: ownA Unt.enc 4 67 (.slice Au (U.length + (priceL (o.ls.take k)).length) cu) (U ++ expandU i (o.ls.take k)) :: cellA q o.enc 90 :: cellA g C.enc 26 :: l)) (fun ρ' _ => o.ls.length - (iv (ρ' 30)).toNat) ?_ ?_
  ·refine Wa ?_
   refine ⟨0, rfl, by omega, none, Au, 0, cu, rfl, e3, ?_⟩
   simp only [l_an, expandU, List.flatMap_nil, l_am]
   exact S.p2.p1
  have p1 := e1
  have p16 := e16
  have p17 := e17
  clear S F e1 e16 e17 e3 hr1
  rintro ρ' h J' hJ' ⟨e1, e16, e17, e4, e5, e7, e29, k, e30, hk, Ap, Au, cp, cu, e6, e3, S⟩
  refine Wc e29 e30 ?_
  refine cD (fun hlt2 => ?_) (fun hlt2 => ?_)
  ·have hkl : k < o.ls.length := by omega
   obtain ⟨b2, off2, hA2, hr2⟩ := (hrl S.tl.tl.tl.tl).at hkl
   have hu1 := expandU_snoc i hkl
   have hp1 := priceL_snoc hkl
   have hct := cntTake_le hlk (k + 1)
   have hc1 := cntOf_snoc hkl
   have hpl := (len_sum (o.ls.take k) fun x hx => hO.count x (List.mem_of_mem_take hx)).1
   have hxl := ((len_sum (o.ls.take k) fun x hx => hO.count x (List.mem_of_mem_take hx)).2.2 i).1
   have hx := hlk _ (l_v hkl)
   have hrx := fun {h'} (S : St h0 h' l) => (hrl S).at hkl
   generalize o.ls[k] = x at *
   obtain ⟨⟨_, ⟨hp0, hp1'⟩, hx0, hx1⟩, _⟩ := hx
   generalize priceL (o.ls.take k) = P at *
   generalize expandU i (o.ls.take k) = V at *
   have hq3 := rP hr2 3 (by omega)
   simp only [Lin.enc, l_o, l_p] at hq3
   ((try clear F); have F := S.fx)
   refine Wg e5 e30 F @Odr.enc.eq_1 hA2 hq3 ?_
   have hadd : ∀ j : Nat, j ≤ x.count.toNat → (P ++ List.replicate j x.price).length = P.length + j ∧ P.length + j ≤ 200 ∧ (U ++ V ++ List.replicate j (⟨i, x.sku, x.cat, x.price⟩ : Unt)).length = U.length + (P.length + j) := fun j hj => by
    refine ⟨by rw [l_m, l_ah], by omega, ?_⟩
    rw [l_m, l_m, l_ah, hxl, Nat.add_assoc]
   refine lI (fun ρ'' h' => ρ'' 1 = ρ' 1 ∧ ρ'' 16 = ρ' 16 ∧ ρ'' 17 = ρ' 17 ∧ ρ'' 4 = ρ' 4 ∧ ρ'' 5 = ρ' 5 ∧ ρ'' 7 = ρ' 7 ∧ ρ'' 29 = ρ' 29 ∧ ρ'' 30 = ρ' 30 ∧ ρ'' 8 = .int .i64 k ∧ ρ'' 38 = .int .i64 x.count ∧ ∃ j : Nat, ρ'' 39 = .int .i64 j ∧ j ≤ x.count.toNat ∧
    ∃ (Ap Au : Option Addr) (cp cu : Nat), ρ'' 6 = .slice Ap (P.length + j) cp ∧ ρ'' 3 = .slice Au (U.length + (P.length + j)) cu ∧
    St h0 h' (ownA zEnc 1 2 (.slice Ap (P.length + j) cp) (P ++ List.replicate j x.price) :: ownA Unt.enc 4 67 (.slice Au (U.length + (P.length + j)) cu) (U ++ V ++ List.replicate j ⟨i, x.sku, x.cat, x.price⟩) :: cellA q o.enc 90 :: cellA g C.enc 26 :: l)) (fun ρ'' _ => x.count.toNat - (iv (ρ'' 39)).toNat) ?_ ?_
   ·refine Wc e5 e30 ?_
    exact ⟨0, rfl, by omega, Ap, Au, cp, cu, e6, e3, by simp only [List.replicate_zero, l_am, Nat.add_zero]; exact S⟩
   have p1 := e1
   have p16 := e16
   have p17 := e17
   have p4 := e4
   have p5 := e5
   have p7 := e7
   have p29 := e29
   have p30 := e30
   clear S F e1 e16 e17 e4 e5 e7 e29 e30 e3 e6 hq3 hr2
   rintro ρ'' h J'' hJ'' ⟨e1, e16, e17, e4, e5, e7, e29, e30, e8, e38, j, e39, hj, Ap, Au, cp, cu, e6, e3, S⟩
   refine Wc e38 e39 ?_
   refine cD (fun hlt3 => ?_) (fun hlt3 => ?_)
   ·have hjl : j < x.count.toNat := by omega
    obtain ⟨hl1, hl2, hl3⟩ := hadd j (by omega)
    obtain ⟨hm1, hm2, hm3⟩ := hadd (j + 1) (by omega)
    have er1 : P ++ List.replicate j x.price ++ [x.price] = P ++ List.replicate (j + 1) x.price := by rw [l_q, ← List.replicate_succ']
    have er2 : U ++ V ++ List.replicate j (⟨i, x.sku, x.cat, x.price⟩ : Unt) ++ [⟨i, x.sku, x.cat, x.price⟩] = U ++ V ++ List.replicate (j + 1) ⟨i, x.sku, x.cat, x.price⟩ := by rw [l_q (U ++ V), ← List.replicate_succ']
    obtain ⟨b3, off3, hA3, hr3⟩ := hrx S.tl.tl.tl.tl
    have hq0 := rP0 hr3 (by omega)
    have hq1 := rP hr3 1 (by omega)
    have hq2 := rP hr3 2 (by omega)
    simp only [Lin.enc, l_o, l_p] at hq0 hq1 hq2
    ((try clear F); have F := S.fx)
    refine Wa ?_
    refine dE ?_
    refine Wi e3 e4 p4 e5 p5 e8 F (Pf @Odr.enc.eq_1 hA3 hq0 hq1 hq2) ?_
    (revert S; (try clear F); refine AL fun r1 h S F => ?_)
    refine Wa ?_
    refine tA1 (bytes := 32) (x := (⟨i, x.sku, x.cat, x.price⟩ : Unt)) Unt.enc_len (by omega) Unt.enc_plain rfl rfl S.p2.p1 (by omega) (by omega) ?_
    clear S F hq0 hq1 hq2 hr3
    intro v h S
    rw [er2] at S
    obtain ⟨Au, cu, rfl⟩ := S.sl
    rw [hm3] at S ⊢
    obtain ⟨b4, off4, hA4, hr4⟩ := hrx S.tl.tl.tl.tl
    have hq2 := rP hr4 2 (by omega)
    simp only [Lin.enc, l_o, l_p] at hq2
    ((try clear F); have F := S.fx)
    refine Wi e6 e5 p5 F @Odr.enc.eq_1 e8 hA4 hq2 ?_
    (revert S; (try clear F); refine AL fun r2 h S F => ?_)
    refine Wa ?_
    refine tA1 (bytes := 8) (x := x.price) zEl (by omega) zEp rfl rfl S.p2.p1 (by omega) (by omega) ?_
    clear S F hq2 hr4
    intro v h S
    rw [er1] at S
    obtain ⟨Ap, cp, rfl⟩ := S.sl
    rw [hm1] at S ⊢
    refine Wb e39 ?_
    refine hJ'' _ _ ?_ ?_
    ·refine Wi e1 e16 e17 e4 e5 e7 e29 (Pd e30 e8 e38) ?_
     exact ⟨j + 1, rfl, by omega, Ap, Au, cp, cu, rfl, rfl, S⟩
    ·refine Wb e39 ?_
     omega
   ·obtain rfl : j = x.count.toNat := by omega
    obtain ⟨hl1, hl2, hl3⟩ := hadd x.count.toNat (by omega)
    have hpx : (P ++ linP x).length = P.length + x.count.toNat := hl1
    have hux : U ++ (V ++ linU i x) = U ++ V ++ List.replicate x.count.toNat ⟨i, x.sku, x.cat, x.price⟩ := by rw [← l_q]; rfl
    refine Wc e30 p30 ?_
    refine hJ' _ _ ?_ ?_
    ·refine Wi e1 p1 e16 p16 e17 p17 e4 (Pf p4 e5 p5 e7 (Pd p7 e29 p29)) ?_
     exact ⟨k + 1, rfl, by omega, Ap, Au, cp, cu, by rw [hp1, hpx]; exact e6, by rw [hp1, hpx]; exact e3, by rw [hu1, hp1, hpx, hux]; exact S⟩
    ·refine Wb p30 ?_
     omega
  obtain rfl : k = o.ls.length := by omega
  rw [l_aj] at S e6 e3
  clear hJ'
  have hXl := unitsOf_len hO i
  have hYl := ((len_sum o.ls hO.count).2.2 i)
  have hPl := (len_sum o.ls hO.count).1
  have hat := fun {k} (hk : k < (expandU i o.ls).length) h1 h2 h3 h4 => unitsOf_at hO i hk h1 h2 h3 h4
  have hVb : ∀ u ∈ expandU (i : Int) o.ls, 0 ≤ u.share ∧ u.share ≤ 1073741824 := fun u hu => by
   obtain ⟨v1, v2⟩ := priceL_fit hO u.share (by rw [← hYl.2]; exact l_ai hu)
   exact ⟨v1, v2⟩
  obtain ⟨dN, hdN⟩ : ∃ n : Nat, o.disc = n := ⟨o.disc.toNat, by have := hO.disc.1; omega⟩
  obtain ⟨tN, htN⟩ : ∃ n : Nat, o.tax = n := ⟨o.tax.toNat, by have := hO.tax.1; omega⟩
  obtain ⟨sN, hsN⟩ : ∃ n : Nat, o.ship = n := ⟨o.ship.toNat, by have := hO.ship.1; omega⟩
  have a1 : askS dN (priceL o.ls) = 0 := by rw [← hdN]; exact hO.ask hO.disc
  have a2 : askS tN (priceL o.ls) = 0 := by rw [← htN]; exact hO.ask hO.tax
  have a3 : askS sN (priceL o.ls) = 0 := by rw [← hsN]; exact hO.ask hO.ship
  obtain ⟨b1l, _, b1b⟩ := shF_len a1
  obtain ⟨b2l, _, b2b⟩ := shF_len a2
  obtain ⟨b3l, _, b3b⟩ := shF_len a3
  have hd30 := hO.disc.2
  have ht30 := hO.tax.2
  have hs30 := hO.ship.2
  rw [hdN, htN, hsN, l_ap, l_ap, l_ap] at hat
  rw [hdN] at hd30
  rw [htN] at ht30
  rw [hsN] at hs30
  have i1 := shF_is dN (priceL o.ls)
  have i2 := shF_is tN (priceL o.ls)
  have i3 := shF_is sN (priceL o.ls)
  generalize shF dN (priceL o.ls) = D1 at *
  generalize shF tN (priceL o.ls) = D2 at *
  generalize shF sN (priceL o.ls) = D3 at *
  generalize hW : unitsOf o i = W at *
  generalize hV : expandU (i : Int) o.ls = V at *
  generalize hP : priceL o.ls = P at *
  obtain ⟨n, hn⟩ : ∃ n, P.length = n := ⟨_, rfl⟩
  have hn200 : n ≤ 200 := by omega
  have hn0 : 0 < n := by
   have := all_bound hlk
   have := hO.n0
   omega
  have rx2 : ∀ K t, readT (fun h' => St h0 h' _) (fun h' => rd1 h' (.pointer (some ⟨q, 2, none⟩))) K t = bindT (some (.int .i64 o.disc)) K ⟨⟩ := fun K t => reads_of S (fun h' s => st_rd1 s.p2)
  have rx3 : ∀ K t, readT (fun h' => St h0 h' _) (fun h' => rd1 h' (.pointer (some ⟨q, 3, none⟩))) K t = bindT (some (.int .i64 o.tax)) K ⟨⟩ := fun K t => reads_of S (fun h' s => st_rd1 s.p2)
  have rx4 : ∀ K t, readT (fun h' => St h0 h' _) (fun h' => rd1 h' (.pointer (some ⟨q, 4, none⟩))) K t = bindT (some (.int .i64 o.ship)) K ⟨⟩ := fun K t => reads_of S (fun h' s => st_rd1 s.p2)
  refine Wa ?_
  refine draw_st S ?_
  refine Wi e5 rx2 rx3 rx4 hdN htN hsN e6 ?_
  refine cI (RShares_ok dN P (fun h' S => S.arr zEl) a1 i1 S) ?_
  clear S rx2 rx3 rx4
  intro v1 h S
  try refine ⟨S.tl, ?_⟩
  refine Wa ?_
  refine cI (RShares_ok tN P (fun h' S => S.p1.arr zEl) a2 i2 S) ?_
  clear S
  intro v2 h S
  try refine ⟨S.tl.tl, ?_⟩
  refine Wa ?_
  refine cI (RShares_ok sN P (fun h' S => S.p2.arr zEl) a3 i3 S) ?_
  clear S
  intro v3 h S
  obtain ⟨A3, c3, rfl⟩ := S.sl
  obtain ⟨A2, c2, rfl⟩ := S.p1.sl
  obtain ⟨A1, c1, rfl⟩ := S.p2.sl
  have S := S.p4
  rw [hn] at S e6 e3
  rw [b1l, b2l, b3l, hn] at S ⊢
  obtain ⟨bu, rfl⟩ := S.ownAt (by rw [l_m]; omega)
  obtain ⟨q3, rfl⟩ := S.p1.ownAt (by omega)
  obtain ⟨q2, rfl⟩ := S.p2.ownAt (by omega)
  obtain ⟨q1, rfl⟩ := S.p3.ownAt (by omega)
  have hXY : (U ++ W).length = (U ++ V).length := by rw [l_m, l_m]; omega
  refine Wb e6 ?_
  refine lI (fun ρ'' h' => ρ'' 1 = ρ' 1 ∧ ρ'' 16 = ρ' 16 ∧ ρ'' 17 = ρ' 17 ∧ ρ'' 3 = .slice (some ⟨bu, 0, none⟩) (U.length + n) cu ∧ ρ'' 7 = .int .i64 U.length ∧ ρ'' 9 = .slice (some ⟨q1, 0, none⟩) n c1 ∧ ρ'' 10 = .slice (some ⟨q2, 0, none⟩) n c2 ∧ ρ'' 11 = .slice (some ⟨q3, 0, none⟩) n c3 ∧ ρ'' 88 = .int .i64 n ∧ ∃ k : Nat, ρ'' 89 = .int .i64 k ∧ k ≤ n ∧
   St h0 h' (ownA Unt.enc 4 67 (.slice (some ⟨bu, 0, none⟩) (U.length + n) cu) ((U ++ W).take (U.length + k) ++ (U ++ V).drop (U.length + k)) :: ownA zEnc 1 2 (.slice (some ⟨q3, 0, none⟩) n c3) D3 :: ownA zEnc 1 2 (.slice (some ⟨q2, 0, none⟩) n c2) D2 :: ownA zEnc 1 2 (.slice (some ⟨q1, 0, none⟩) n c1) D1 ::
    ownA zEnc 1 2 (.slice Ap n cp) P :: cellA q o.enc 90 :: cellA g C.enc 26 :: l)) (fun ρ'' _ => n - (iv (ρ'' 89)).toNat) ?_ ?_
  ·refine Wc e3 e7 ?_
   refine ⟨0, rfl, by omega, ?_⟩
   rw [Nat.add_zero, List.take_left', List.drop_left'] <;> first | exact S | rfl
  have p1' := e1
  have p16' := e16
  have p17' := e17
  clear S e1 e16 e17 e4 e5 e7 e29 e30 e6 e3
  rintro ρ'' h J'' hJ'' ⟨e1, e16, e17, e3, e7, e9, e10, e11, e88, k, e89, hk, S⟩
  refine Wc e88 e89 ?_
  refine cD (fun hlt3 => ?_) (fun hlt3 => ?_)
  ·have hkn : k < n := by omega
   have hml := mid_len (U ++ W) (U ++ V) hXY (U.length + k)
   have hlUV : (U ++ V).length = U.length + n := by rw [l_m]; omega
   have hru := own_part Unt.enc_len S (i := U.length + k) (j := 3) (by omega) (by omega)
   have hmg := mid_get (U ++ W) (U ++ V) hXY (k := U.length + k) (by omega)
   have hgV : (U ++ V)[U.length + k]'(by omega) = V[k]'(by omega) := by rw [List.getElem_append_right (by omega)]; simp
   have hgW : (U ++ W)[U.length + k]'(by omega) = W[k]'(by omega) := by rw [List.getElem_append_right (by omega)]; simp
   have hset := set_mid (U ++ W) (U ++ V) hXY (k := U.length + k) (by omega)
   rw [hmg, hgV] at hru
   rw [hgV] at hmg
   have hr1 := own_rd S.p3 (i := k) (l_r (by omega))
   have hr2 := own_rd S.p2 (i := k) (l_r (by omega))
   have hr3 := own_rd S.p1 (i := k) (l_r (by omega))
   have hwk := hat (k := k) (by omega) (by omega) (by omega) (by omega) (by omega)
   have hb0 := hVb _ (l_v (l := V) (n := k) (by omega))
   have hb1 := b1b _ (l_v (l := D1) (n := k) (by omega))
   have hb2 := b2b _ (l_v (l := D2) (n := k) (by omega))
   have hb3 := b3b _ (l_v (l := D3) (n := k) (by omega))
   rw [hgW, hwk] at hset
   generalize D1[k]'(by omega) = x1 at *
   generalize D2[k]'(by omega) = x2 at *
   generalize D3[k]'(by omega) = x3 at *
   generalize V[k]'(by omega) = u at *
   simp only [Unt.enc, l_p, l_o] at hru
   have w0 : IntKind.i64.wrap ((U.length : Int) + k) = ((U.length + k : Nat) : Int) := addI rfl (by omega)
   have w1 : IntKind.i64.wrap (u.share - x1) = u.share - x1 := wrap_i64 (by omega) (by omega)
   have w2 : IntKind.i64.wrap (u.share - x1 + x2) = u.share - x1 + x2 := wrap_i64 (by omega) (by omega)
   have w3 : IntKind.i64.wrap (u.share - x1 + x2 + x3) = u.share - x1 + x2 + x3 := wrap_i64 (by omega) (by omega)
   refine Wa ?_
   refine dE ?_
   refine Wi e3 e7 e89 e9 e10 e11 w0 (Pf hru hr1 hr2 hr3 (Pd w1 w2 w3)) ?_
   refine st_setPart Unt.enc_len (i := U.length + k) (j := 3) (x := { u with share := u.share - x1 + x2 + x3 }) S (by omega) (by omega) (Nat.le_refl 4) rfl rfl (by rw [hmg]; rfl) ?_
   clear S hru hr1 hr2 hr3
   intro h S
   rw [hset] at S
   refine Wb e89 ?_
   refine hJ'' _ _ ?_ ?_
   ·refine Wi e1 e16 e17 e3 e7 e9 e10 (Pc e11 e88) ?_
    exact ⟨k + 1, rfl, by omega, S⟩
   ·refine Wb e89 ?_
    omega
  ·obtain rfl : k = n := by omega
   rw [List.take_of_length_le (by rw [l_m]; omega), List.drop_of_length_le (by rw [l_m]; omega), l_am, ← hs1] at S
   have hfl : (ordsU 0 (C.os.take (i + 1))).length = U.length + k := by rw [hs1, l_m]; omega
   refine Wd e17 p17' p17 ?_
   refine hJ _ _ ?_ ?_
   ·refine Wg e1 p1' p1 e16 p16' p16 ?_
    exact ⟨i + 1, rfl, by omega, _, cu, by rw [hfl]; exact e3, by rw [hfl]; exact S.d1.d1.d1.d1.d1⟩
   ·refine Wb p17 ?_
    omega
 obtain rfl : i = C.os.length := by omega
 rw [l_aj] at e3 S
 have hlen := ordsU_len (os := C.os) 0 hOk
 clear hJ
 ((try clear F); have F := S.fx)
 refine Wd e1 F @Cfg.enc.eq_1 ?_
 refine lI (fun ρ h' => ρ 1 = .pointer (some ⟨g, 0, none⟩) ∧ ρ 124 = .int .i64 C.ss.length ∧ ∃ i : Nat, ρ 125 = .int .i64 i ∧ i ≤ C.ss.length ∧ ∃ (Au : Option Addr) (cu : Nat), ρ 3 = .slice Au (ordsU 0 C.os ++ (C.ss.take i).flatMap supU).length cu ∧
  St h0 h' (ownA Unt.enc 4 67 (.slice Au (ordsU 0 C.os ++ (C.ss.take i).flatMap supU).length cu) (ordsU 0 C.os ++ (C.ss.take i).flatMap supU) :: cellA g C.enc 26 :: l)) (fun ρ _ => C.ss.length - (iv (ρ 125)).toNat) ?_ ?_
 ·refine Wb e1 ?_
  exact ⟨0, rfl, by omega, Au, cu, by simp [e3], by simpa using S⟩
 clear S F e1 e16 e17 e3
 rintro ρ h J hJ ⟨e1, e124, i, e125, hi, Au, cu, e3, S⟩
 refine Wc e124 e125 ?_
 refine cD (fun hlt => ?_) (fun hlt => ?_)
 ·have hil : i < C.ss.length := by omega
  have hrx := fun {h'} (S : St h0 h' l) => (r _ S).ss.at hil
  have hs1 : ordsU 0 C.os ++ (C.ss.take (i + 1)).flatMap supU = (ordsU 0 C.os ++ (C.ss.take i).flatMap supU) ++ supU C.ss[i] := by rw [supU_snoc hil, l_q]
  have hx := k4.1 _ (l_v hil)
  have hl2 := supU_len (ss := C.ss.take i) fun s hs => k4.1 s (List.mem_of_mem_take hs)
  have hl3 := supTake_le k4.1 (i + 1)
  rw [supSum_snoc hil] at hl3
  generalize C.ss[i] = x at *
  obtain ⟨_, _, hx0, hx1⟩ := hx
  have hPl : ((ordsU 0 C.os ++ (C.ss.take i).flatMap supU).length : Int) + x.count ≤ 200 := by rw [l_m]; omega
  generalize ordsU 0 C.os ++ (C.ss.take i).flatMap supU = P at *
  obtain ⟨b, off, hA, hr1⟩ := hrx S.tl.tl
  have hq2 := rP hr1 2 (by omega)
  simp only [Sup.enc, l_o, l_p] at hq2
  ((try clear F); have F := S.fx)
  refine Wg e1 e125 F @Cfg.enc.eq_1 hA hq2 ?_
  refine lI (fun ρ' h' => ρ' 1 = .pointer (some ⟨g, 0, none⟩) ∧ ρ' 124 = ρ 124 ∧ ρ' 125 = ρ 125 ∧ ρ' 13 = .int .i64 i ∧ ρ' 133 = .int .i64 x.count ∧ ∃ j : Nat, ρ' 134 = .int .i64 j ∧ j ≤ x.count.toNat ∧
   ∃ (Au : Option Addr) (cu : Nat), ρ' 3 = .slice Au (P.length + j) cu ∧
   St h0 h' (ownA Unt.enc 4 67 (.slice Au (P.length + j) cu) (P ++ List.replicate j ⟨-1, x.sku, 0, x.price⟩) :: cellA g C.enc 26 :: l)) (fun ρ' _ => x.count.toNat - (iv (ρ' 134)).toNat) ?_ ?_
  ·refine Wc e1 e125 ?_
   exact ⟨0, rfl, by omega, Au, cu, e3, by simp only [List.replicate_zero, l_am, Nat.add_zero]; exact S⟩
  have p124 := e124
  have p125 := e125
  clear S F e1 e124 e125 e3 hr1 hq2
  rintro ρ' h J' hJ' ⟨e1, e124, e125, e13, e133, j, e134, hj, Au, cu, e3, S⟩
  refine Wc e133 e134 ?_
  refine cD (fun hlt2 => ?_) (fun hlt2 => ?_)
  ·have hjl : j < x.count.toNat := by omega
   have er2 : P ++ List.replicate j (⟨-1, x.sku, 0, x.price⟩ : Unt) ++ [⟨-1, x.sku, 0, x.price⟩] = P ++ List.replicate (j + 1) ⟨-1, x.sku, 0, x.price⟩ := by rw [l_q, ← List.replicate_succ']
   have hll : (P ++ List.replicate j (⟨-1, x.sku, 0, x.price⟩ : Unt)).length = P.length + j := by rw [l_m, l_ah]
   have hll2 : (P ++ List.replicate (j + 1) (⟨-1, x.sku, 0, x.price⟩ : Unt)).length = P.length + (j + 1) := by rw [l_m, l_ah]
   obtain ⟨b3, off3, hA3, hr3⟩ := hrx S.tl.tl
   have hq0 := rP0 hr3 (by omega)
   have hq1 := rP hr3 1 (by omega)
   simp only [Sup.enc, l_o, l_p] at hq0 hq1
   ((try clear F); have F := S.fx)
   refine Wa ?_
   refine dE ?_
   refine Wi e3 e1 e13 F @Cfg.enc.eq_1 hA3 hq0 hq1 ?_
   (revert S; (try clear F); refine AL fun r1 h S F => ?_)
   refine Wa ?_
   refine tA1 (bytes := 32) (x := (⟨-1, x.sku, 0, x.price⟩ : Unt)) Unt.enc_len (by omega) Unt.enc_plain rfl rfl S (by omega) (by omega) ?_
   clear S F hq0 hq1 hr3
   intro v h S
   rw [er2] at S
   obtain ⟨Au, cu, rfl⟩ := S.sl
   rw [hll2] at S ⊢
   refine Wb e134 ?_
   refine hJ' _ _ ?_ ?_
   ·refine Wf e1 e124 e125 e13 e133 ?_
    exact ⟨j + 1, rfl, by omega, Au, cu, rfl, S⟩
   ·refine Wb e134 ?_
    omega
  ·obtain rfl : j = x.count.toNat := by omega
   have hrp : P ++ List.replicate x.count.toNat (⟨-1, x.sku, 0, x.price⟩ : Unt) = P ++ supU x := rfl
   have hll : (P ++ supU x).length = P.length + x.count.toNat := by rw [l_m, supU, l_ah]
   rw [hrp] at S
   refine Wc e125 p125 ?_
   refine hJ _ _ ?_ ?_
   ·refine Wd e1 e124 p124 ?_
    exact ⟨i + 1, rfl, by omega, Au, cu, by rw [hs1, hll]; exact e3, by rw [hs1, hll]; exact S⟩
   ·refine Wb p125 ?_
    omega
 obtain rfl : i = C.ss.length := by omega
 rw [l_aj] at e3 S
 refine Wb e3 ?_
 exact hK _ _ S.d1
end
end
section
set_option maxHeartbeats 8000000
def fewC (C : Cfg) : Prop := C.os.length ≤ 40 ∧ C.ss.length ≤ 40 ∧ C.ps.length ≤ 40 ∧ ∀ o ∈ C.os, o.ls.length ≤ 20
theorem Few_ok {h0 : Heap} (C : Cfg) (r : C.rd h0) (w : C.wf) :
  CallsH Tryz.prog 24 [.agg C.enc.toArray] h0 fun v h' => v = .bool (dcd (fewC C)) ∧ Fr h0 h' [] := by
 have S := St.nil h0
 have r' : ∀ {h' : Heap} {l : List HP}, St h0 h' l → C.rd h' := fun S => r.fr S.fr
 have hw := w.l1
 have hw2 := w.m1
 by_cases d1 : 40 < (C.os.length : Int)
 ·refine EN i24.eq_1 fun K hK => Wa ?_
  (revert S; (try clear F); refine AL fun g h S F => ?_)
  refine Wd F @Cfg.enc.eq_1 d1 ?_
  exact hK _ _ ⟨by rw [dF (fun h => by have := h.1; omega)], S.fr⟩
 by_cases d2 : 40 < (C.ss.length : Int)
 ·refine EN i24.eq_1 fun K hK => Wa ?_
  (revert S; (try clear F); refine AL fun g h S F => ?_)
  refine We F @Cfg.enc.eq_1 d1 d2 ?_
  exact hK _ _ ⟨by rw [dF (fun h => by have := h.2.1; omega)], S.fr⟩
 by_cases d3 : 40 < (C.ps.length : Int)
 ·refine EN i24.eq_1 fun K hK => Wa ?_
  (revert S; (try clear F); refine AL fun g h S F => ?_)
  refine Wf F @Cfg.enc.eq_1 d1 d2 d3 ?_
  exact hK _ _ ⟨by rw [dF (fun h => by have := h.2.2.1; omega)], S.fr⟩
 refine EN i24.eq_1 fun K hK => Wa ?_
 (revert S; (try clear F); refine AL fun g h S F => ?_)
 refine Wf F @Cfg.enc.eq_1 d1 d2 d3 ?_
 refine lI (fun ρ h' => ρ 1 = .pointer (some ⟨g, 0, none⟩) ∧ ρ 22 = .int .i64 C.os.length ∧ ∃ i : Nat, ρ 23 = .int .i64 i ∧ i ≤ C.os.length ∧ (∀ o ∈ C.os.take i, o.ls.length ≤ 20) ∧ St h0 h' [cellA g C.enc 26]) (fun ρ _ => C.os.length - (iv (ρ 23)).toNat) ?_ ?_
 ·refine Wa ?_
  exact ⟨0, rfl, by omega, by simp, S⟩
 clear S F
 rintro ρ h J hJ ⟨e1, e22, i, e23, hi, hok, S⟩
 refine Wc e22 e23 ?_
 refine cD (fun hlt => ?_) (fun hlt => ?_)
 ·have hil : i < C.os.length := by omega
  obtain ⟨b, off, hA, hr1⟩ := (r' S).os.at hil
  have hmem := l_v hil
  have htk : C.os[i].ls.length ≤ 20 → ∀ o ∈ C.os.take (i + 1), o.ls.length ≤ 20 := fun hx o ho => by
   rw [l_t hil] at ho
   rcases List.mem_append.1 ho with ho | ho
   ·exact hok o ho
   ·rw [l_aa] at ho; rw [ho]; exact hx
  generalize C.os[i] = o at *
  have hq1 := rP hr1 1 (by omega)
  simp only [Odr.enc, l_o, l_p] at hq1
  ((try clear F); have F := S.fx)
  by_cases d4 : 20 < (o.ls.length : Int)
  ·refine Wh e1 e23 F @Cfg.enc.eq_1 hA hq1 d4 ?_
   exact hK _ _ ⟨by rw [dF (fun h => by have := h.2.2.2 _ hmem; omega)], S.fr⟩
  ·refine Wh e1 e23 F @Cfg.enc.eq_1 hA hq1 d4 ?_
   refine hJ _ _ ?_ ?_
   ·refine Wc e1 e22 ?_
    exact ⟨i + 1, rfl, by omega, htk (by omega), S⟩
   ·refine Wb e23 ?_
    omega
 ·obtain rfl : i = C.os.length := by omega
  rw [l_aj] at hok
  refine Wa ?_
  exact hK _ _ ⟨by rw [dT ⟨by omega, by omega, by omega, hok⟩], S.fr⟩
theorem unitsAll_len {C : Cfg} (hok : okCfg C) : ((unitsAll C).length : Int) = totOf C ∧ (unitsAll C).length ≤ 200 := by
 have h1 := ordsU_len (os := C.os) 0 hok.okO
 have h2 := supU_len hok.2.2.2.2.1.1
 have h3 := hok.2.2.2.2.2
 have ht : totOf C = ordSum C.os + supSum C.ss := rfl
 rw [unitsAll, l_m]
 omega
def c0C : Cfg := ⟨none, 0, [], none, 0, [], none, 0, []⟩
theorem c0_ok : okCfg c0C := ⟨⟨by decide, by simp [c0C]⟩, by decide, by decide, by simp [c0C], ⟨by simp [c0C], by simp [c0C]⟩, by decide⟩
end
section
set_option maxHeartbeats 8000000
section
variable {h0 h : Heap} {l : List HP}
end
def linB (l : Lin) : List UInt8 := le 2 l.sku ++ (le 1 l.cat ++ (le 8 l.price ++ le 1 l.count))
def odrB (o : Odr) : List UInt8 := le 4 o.day ++ (le 8 o.disc ++ (le 8 o.tax ++ (le 8 o.ship ++ (le 1 o.ls.length ++ o.ls.flatMap linB))))
def supB (s : Sup) : List UInt8 := le 2 s.sku ++ (le 8 s.price ++ le 1 s.count)
def encC (C : Cfg) : List UInt8 := (le 2 (encT C.ps).length ++ encT C.ps) ++ (le 1 C.os.length ++ (C.os.flatMap odrB ++ (le 1 C.ss.length ++ C.ss.flatMap supB)))
section
variable {h0 h : Heap} {l : List HP}
end
end
section
set_option maxHeartbeats 8000000
def Odr.pu (o : Odr) : Int × Int × Int × Int × List Lin := (o.day, o.disc, o.tax, o.ship, o.ls)
def Cfg.pu (C : Cfg) : List Pol × List Sup × List (Int × Int × Int × Int × List Lin) := (C.ps, C.ss, C.os.map Odr.pu)
end
section
set_option maxHeartbeats 8000000
abbrev Q := List UInt8 × Bool
noncomputable def vi (q : Q) : Int := IntKind.i64.wrap (vl 8 q)
noncomputable def bytesR (q : Q) : List UInt8 × Q := if (stp 2 q).2 = true ∨ (stp 2 q).1.length < (vl 2 q).toNat then ([], ([], true)) else ((stp 2 q).1.take (vl 2 q).toNat, ((stp 2 q).1.drop (vl 2 q).toNat, false))
noncomputable def pLin (q : Q) : Lin × Q := (⟨vl 2 q, vl 1 (stp 2 q), vi (stp 1 (stp 2 q)), vl 1 (stp 8 (stp 1 (stp 2 q)))⟩, stp 1 (stp 8 (stp 1 (stp 2 q))))
noncomputable def pSup (q : Q) : Sup × Q := (⟨vl 2 q, vi (stp 2 q), vl 1 (stp 8 (stp 2 q))⟩, stp 1 (stp 8 (stp 2 q)))
noncomputable def pMany {α : Type} (p : Q → α × Q) : Nat → Q → List α × Q
 | 0, q => ([], q)
 | n + 1, q => ((pMany p n q).1 ++ [(p (pMany p n q).2).1], (p (pMany p n q).2).2)
abbrev POd := Int × Int × Int × Int × List Lin
noncomputable def pOdr (q : Q) : POd × Q :=
 ((vl 4 q, vi (stp 4 q), vi (stp 8 (stp 4 q)), vi (stp 8 (stp 8 (stp 4 q))), (pMany pLin (vl 1 (stp 8 (stp 8 (stp 8 (stp 4 q))))).toNat (stp 1 (stp 8 (stp 8 (stp 8 (stp 4 q)))))).1),
  (pMany pLin (vl 1 (stp 8 (stp 8 (stp 8 (stp 4 q))))).toNat (stp 1 (stp 8 (stp 8 (stp 8 (stp 4 q)))))).2)
theorem pMany_len {α : Type} (p : Q → α × Q) (q : Q) : ∀ n, (pMany p n q).1.length = n
 | 0 => rfl
 | n + 1 => by rw [pMany, l_m, pMany_len p q n]; rfl
theorem vl1 (q : Q) : 0 ≤ vl 1 q ∧ vl 1 q < 256 := by have := rdV_nn 1 q.1 q.2; simpa [vl] using this
theorem vl2 (q : Q) : 0 ≤ vl 2 q ∧ vl 2 q < 65536 := by have := rdV_nn 2 q.1 q.2; simpa [vl] using this
section
variable {h0 h : Heap} {l : List HP} {i : Nat} {q : Q}
end
end
end Go.Proofs.YtcgbhcgfdcfmaaaGreat.MX
