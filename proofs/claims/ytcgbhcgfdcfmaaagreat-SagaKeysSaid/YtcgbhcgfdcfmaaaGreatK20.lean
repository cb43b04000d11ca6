import Derived.Test.YtcgbhcgfdcfmaaaGreatK19
namespace Go.Proofs.YtcgbhcgfdcfmaaaGreat.MX
open Go Go.Proofs
set_option linter.unusedSimpArgs false
set_option linter.unusedVariables false
section
set_option maxHeartbeats 8000000
theorem cnt_le {k : Int} : ∀ {os : List Odr}, (∀ o ∈ os, okOrder k o) → ∀ o ∈ os, cntOf o.ls ≤ ordSum os
 | [], _, o, ho => by cases ho
 | x :: os, h, o, ho => by
  have h1 := all_bound (h x (by simp)).2.1
  have h2 := ord_bound (os := os) fun y hy => h y (by simp [hy])
  have h3 := cnt_le (os := os) fun y hy => h y (by simp [hy])
  simp only [ordSum, List.map_cons, List.sum_cons] at h2 h3 ⊢
  rcases List.mem_cons.1 ho with rfl | ho
  ·omega
  ·have := h3 o ho; omega
theorem okCfg.okO {C : Cfg} (h : okCfg C) : ∀ o ∈ C.os, OkO o := fun o ho => by
 obtain ⟨_, h1, h2, h3, h4, h5⟩ := h
 obtain ⟨⟨_, ⟨n0, n1⟩, d, t, s⟩, hl, hd⟩ := h3 o ho
 have hc := cnt_le h3 o ho
 have hs := sup_bound h4.1
 have ht : totOf C = ordSum C.os + supSum C.ss := rfl
 exact ⟨⟨_, hl⟩, n0, n1, by omega, d, t, s, hd⟩
theorem unitsOf_len {o : Odr} (h : OkO o) (i : Int) : ((unitsOf o i).length : Int) = cntOf o.ls := by
 rw [unitsOf, unitsR_len h, (len_sum o.ls h.count).1]
theorem ordsU_len : ∀ {os : List Odr} (i : Nat), (∀ o ∈ os, OkO o) → ((ordsU i os).length : Int) = ordSum os
 | [], i, _ => rfl
 | x :: os, i, h => by
  have h1 := unitsOf_len (h x (by simp)) i
  have h2 := ordsU_len (os := os) (i + 1) fun y hy => h y (by simp [hy])
  simp only [ordsU, l_m, ordSum, List.map_cons, List.sum_cons] at h2 ⊢
  omega
theorem ordsU_snoc {os : List Odr} {i : Nat} (hi : i < os.length) : ordsU 0 (os.take (i + 1)) = ordsU 0 (os.take i) ++ unitsOf os[i] i := by
 rw [l_t hi, ordsU_app, l_ad, Nat.min_eq_left (by omega)]
 simp [ordsU]
theorem supU_snoc {ss : List Sup} {i : Nat} (hi : i < ss.length) : (ss.take (i + 1)).flatMap supU = (ss.take i).flatMap supU ++ supU ss[i] := by
 rw [l_t hi, List.flatMap_append]
 simp
theorem supU_len : ∀ {ss : List Sup}, (∀ s ∈ ss, okSup s) → ((ss.flatMap supU).length : Int) = supSum ss
 | [], _ => rfl
 | x :: ss, h => by
  have h1 := (h x (by simp)).2.2
  have h2 := supU_len (ss := ss) fun y hy => h y (by simp [hy])
  simp only [List.flatMap_cons, l_m, supU, l_ah, supSum, List.map_cons, List.sum_cons] at h2 ⊢
  omega
theorem sumTake_le {k : Int} {os : List Odr} (h : ∀ o ∈ os, okOrder k o) (i : Nat) : ordSum (os.take i) ≤ ordSum os := by
 have h1 := ord_bound (os := os.drop i) fun o ho => h o (List.mem_of_mem_drop ho)
 have : ordSum os = ordSum (os.take i) + ordSum (os.drop i) := by
  conv => lhs; rw [← List.take_append_drop i os]
  rw [ordSum, l_al, List.sum_append]; rfl
 omega
theorem supTake_le {ss : List Sup} (h : ∀ s ∈ ss, okSup s) (i : Nat) : supSum (ss.take i) ≤ supSum ss := by
 have h1 := sup_bound (ss := ss.drop i) fun o ho => h o (List.mem_of_mem_drop ho)
 have : supSum ss = supSum (ss.take i) + supSum (ss.drop i) := by
  conv => lhs; rw [← List.take_append_drop i ss]
  rw [supSum, l_al, List.sum_append]; rfl
 omega
section
variable {h0 h : Heap} {l : List HP}
theorem OUnits_ok (C : Cfg) (r : ∀ h', St h0 h' l → C.rd h') (w : C.wf) (l1 : C.os.length < 1000000) (l2 : C.ss.length < 1000000) (l3 : C.ps.length < 1000000) (l4 : ∀ o ∈ C.os, o.ls.length < 1000000) (S : St h0 h l) :
  CallsH Tryz.prog 25 [.agg C.enc.toArray] h fun v h' => (¬ okCfg C ∧ v = .tuple #[.slice none 0 0, .int .i64 1] ∧ St h0 h' l) ∨ (okCfg C ∧ ∃ s, v = .tuple #[s, .int .i64 0] ∧ St h0 h' (ownA Unt.enc 4 72 s (unitsAll C) :: l)) := by
 refine EN i25.eq_1 fun K hK => Wa ?_
 (revert S; (try clear F); refine AL fun g h S F => ?_)
 refine Wc F @Cfg.enc.eq_1 ?_
 have hR := ORight_ok C (r h S.tl) w l1 l2 l3 l4
 rw [show [Value.slice C.A1 C.os.length C.c1, Value.slice C.A2 C.ss.length C.c2, Value.slice C.A3 C.ps.length C.c3] = C.enc from rfl]
 refine cI hR ?_
 rintro _ h ⟨rfl, hf⟩
 have S := S.frame hf
 by_cases hok : okCfg C
 case neg =>
  rw [dF hok]
  refine Wa ?_
  exact hK _ _ (.inl ⟨hok, rfl, S.tl⟩)
 rw [dT hok]
 obtain ⟨_, k1, k2, k3, k4, k5⟩ := id hok
 have hOk := hok.okO
 have ht : totOf C = ordSum C.os + supSum C.ss := rfl
 have hob := ord_bound k3
 have hsb := sup_bound k4.1
 ((try clear F); have F := S.fx)
 have S : St h0 h (ownA Unt.enc 4 72 (.slice none 0 0) [] :: _) := S.nilS
 refine Wc F @Cfg.enc.eq_1 ?_
 refine lI (fun ρ h' => ρ 1 = .pointer (some ⟨g, 0, none⟩) ∧ ρ 13 = .slice C.A1 C.os.length C.c1 ∧ ρ 14 = .int .i64 C.os.length ∧ ∃ i : Nat, ρ 15 = .int .i64 i ∧ i ≤ C.os.length ∧ ∃ (Au : Option Addr) (cu : Nat), ρ 4 = .slice Au (ordsU 0 (C.os.take i)).length cu ∧
  St h0 h' (ownA Unt.enc 4 72 (.slice Au (ordsU 0 (C.os.take i)).length cu) (ordsU 0 (C.os.take i)) :: cellA g C.enc 26 :: l)) (fun ρ _ => C.os.length - (iv (ρ 15)).toNat) ?_ ?_
 ·refine Wa ?_
  exact ⟨0, rfl, by omega, none, 0, rfl, S⟩
 clear S F hR
 rintro ρ h J hJ ⟨e1, e13, e14, i, e15, hi, Au, cu, e4, S⟩
 refine Wc e14 e15 ?_
 refine cD (fun hlt => ?_) (fun hlt => ?_)
 ·have hil : i < C.os.length := by omega
  obtain ⟨b, off, hA, hr1⟩ := (r _ S.tl.tl).os.at hil
  have hmem := l_v hil
  have hs1 := ordsU_snoc hil
  have hrl := fun {h'} (S : St h0 h' l) => (r _ S).ls _ hmem
  have hO := hOk _ hmem
  have hul := unitsOf_len hO i
  have hlen := ordsU_len (os := C.os.take i) 0 fun o ho => hOk o (List.mem_of_mem_take ho)
  have hle := sumTake_le k3 i
  generalize C.os[i] = o at *
  generalize ordsU 0 (C.os.take i) = U at *
  have hcn := hO.cnt
  have ho8 := hO.n1
  refine We e13 e15 hA hr1 ?_
  (revert S; (try clear F); refine AL fun q h S F => ?_)
  refine Wc F @Odr.enc.eq_1 ?_
  (revert S; (try clear F); refine ST fun h S F => ?_)
  refine Wc e4 F ?_
  refine cI (units_ok o i hO (fun h' S => hrl S.tl.tl.tl) S) ?_
  clear S F hr1
  intro v h S
  obtain ⟨Av, cv, rfl⟩ := S.sl
  refine Wa ?_
  refine tAp (bytes := 32) (ys := unitsOf o i) Unt.enc_len (by omega) Unt.enc_plain rfl S.p2 rfl (src_arr Unt.enc_len (S.arr Unt.enc_len) rfl) (by omega) (by omega) ?_
  clear S
  intro v h S
  rw [← hs1] at S
  obtain ⟨Au, cu, rfl⟩ := S.sl
  refine Wb e15 ?_
  refine hJ _ _ ?_ ?_
  ·refine We e1 e13 e14 hA ?_
   exact ⟨i + 1, rfl, by omega, Au, cu, rfl, S.d1.d1⟩
  ·refine Wb e15 ?_
   omega
 obtain rfl : i = C.os.length := by omega
 rw [l_aj] at e4 S
 have hlen := ordsU_len (os := C.os) 0 hOk
 clear hJ
 ((try clear F); have F := S.fx)
 refine Wd e1 F @Cfg.enc.eq_1 ?_
 refine lI (fun ρ h' => ρ 27 = .slice C.A2 C.ss.length C.c2 ∧ ρ 28 = .int .i64 C.ss.length ∧ ∃ i : Nat, ρ 29 = .int .i64 i ∧ i ≤ C.ss.length ∧ ∃ (Au : Option Addr) (cu : Nat), ρ 4 = .slice Au (ordsU 0 C.os ++ (C.ss.take i).flatMap supU).length cu ∧
  St h0 h' (ownA Unt.enc 4 72 (.slice Au (ordsU 0 C.os ++ (C.ss.take i).flatMap supU).length cu) (ordsU 0 C.os ++ (C.ss.take i).flatMap supU) :: l)) (fun ρ _ => C.ss.length - (iv (ρ 29)).toNat) ?_ ?_
 ·refine Wa ?_
  exact ⟨0, rfl, by omega, Au, cu, by simp [e4], by simpa using S.d1⟩
 clear S F e1 e13 e14 e15 e4
 rintro ρ h J hJ ⟨e27, e28, i, e29, hi, Au, cu, e4, S⟩
 refine Wc e28 e29 ?_
 refine cD (fun hlt => ?_) (fun hlt => ?_)
 ·have hil : i < C.ss.length := by omega
  obtain ⟨b, off, hA, hr1⟩ := (r _ S.tl).ss.at hil
  have hs1 : ordsU 0 C.os ++ (C.ss.take (i + 1)).flatMap supU = (ordsU 0 C.os ++ (C.ss.take i).flatMap supU) ++ supU C.ss[i] := by rw [supU_snoc hil, l_q]
  have hx := k4.1 _ (l_v hil)
  have hl2 := supU_len (ss := C.ss.take i) fun s hs => k4.1 s (List.mem_of_mem_take hs)
  have hl3 := supTake_le k4.1 (i + 1)
  rw [supSum_snoc hil] at hl3
  generalize C.ss[i] = x at *
  obtain ⟨_, _, hx0, hx1⟩ := hx
  have hPl : ((ordsU 0 C.os ++ (C.ss.take i).flatMap supU).length : Int) + x.count ≤ 200 := by rw [l_m]; omega
  generalize ordsU 0 C.os ++ (C.ss.take i).flatMap supU = P at *
  refine We e27 e29 hA hr1 ?_
  (revert S; (try clear F); refine AL fun q h S F => ?_)
  refine Wc F @Sup.enc.eq_1 ?_
  (revert S; (try clear F); refine ST fun h S F => ?_)
  refine Wb F ?_
  refine lI (fun ρ' h' => ρ' 27 = ρ 27 ∧ ρ' 28 = ρ 28 ∧ ρ' 29 = ρ 29 ∧ ρ' 8 = .pointer (some ⟨q, 0, none⟩) ∧ ρ' 34 = .int .i64 x.count ∧ ∃ j : Nat, ρ' 35 = .int .i64 j ∧ j ≤ x.count.toNat ∧
   ∃ (Au : Option Addr) (cu : Nat), ρ' 4 = .slice Au (P.length + j) cu ∧
   St h0 h' (ownA Unt.enc 4 72 (.slice Au (P.length + j) cu) (P ++ List.replicate j ⟨-1, x.sku, 0, x.price⟩) :: cellA q x.enc 95 :: l)) (fun ρ' _ => x.count.toNat - (iv (ρ' 35)).toNat) ?_ ?_
  ·refine Wb e4 ?_
   exact ⟨0, rfl, by omega, Au, cu, rfl, by simp only [List.replicate_zero, l_am, Nat.add_zero]; exact S.p1⟩
  have p27 := e27
  have p28 := e28
  have p29 := e29
  clear S F e27 e28 e29 e4 hr1
  rintro ρ' h J' hJ' ⟨e27, e28, e29, e8, e34, j, e35, hj, Au, cu, e4, S⟩
  refine Wc e34 e35 ?_
  refine cD (fun hlt2 => ?_) (fun hlt2 => ?_)
  ·have hjl : j < x.count.toNat := by omega
   have er2 : P ++ List.replicate j (⟨-1, x.sku, 0, x.price⟩ : Unt) ++ [⟨-1, x.sku, 0, x.price⟩] = P ++ List.replicate (j + 1) ⟨-1, x.sku, 0, x.price⟩ := by rw [l_q, ← List.replicate_succ']
   have hll : (P ++ List.replicate j (⟨-1, x.sku, 0, x.price⟩ : Unt)).length = P.length + j := by rw [l_m, l_ah]
   have hll2 : (P ++ List.replicate (j + 1) (⟨-1, x.sku, 0, x.price⟩ : Unt)).length = P.length + (j + 1) := by rw [l_m, l_ah]
   ((try clear F); have F := S.fx)
   refine We e8 F @Sup.enc.eq_1 e4 ?_
   (revert S; (try clear F); refine AL fun r1 h S F => ?_)
   refine Wa ?_
   refine tA1 (bytes := 32) (x := (⟨-1, x.sku, 0, x.price⟩ : Unt)) Unt.enc_len (by omega) Unt.enc_plain rfl rfl S (by omega) (by omega) ?_
   clear S F
   intro v h S
   rw [er2] at S
   obtain ⟨Au, cu, rfl⟩ := S.sl
   rw [hll2] at S ⊢
   refine Wb e35 ?_
   refine hJ' _ _ ?_ ?_
   ·refine Wf e27 e28 e29 e8 e34 ?_
    exact ⟨j + 1, rfl, by omega, Au, cu, rfl, S⟩
   ·refine Wb e35 ?_
    omega
  ·obtain rfl : j = x.count.toNat := by omega
   have hrp : P ++ List.replicate x.count.toNat (⟨-1, x.sku, 0, x.price⟩ : Unt) = P ++ supU x := rfl
   have hll : (P ++ supU x).length = P.length + x.count.toNat := by rw [l_m, supU, l_ah]
   rw [hrp] at S
   refine Wc e29 p29 ?_
   refine hJ _ _ ?_ ?_
   ·refine We e27 p27 e28 p28 ?_
    exact ⟨i + 1, rfl, by omega, Au, cu, by rw [hs1, hll]; exact e4, by rw [hs1, hll]; exact S.d1⟩
   ·refine Wb p29 ?_
    omega
 obtain rfl : i = C.ss.length := by omega
 rw [l_aj] at e4 S
 refine Wb e4 ?_
 exact hK _ _ (.inr ⟨hok, _, rfl, S⟩)
end
end
section
set_option maxHeartbeats 16000000
theorem unitsOf_at {o : Odr} (h : OkO o) (i : Int) {k : Nat} (hk : k < (expandU i o.ls).length) (h1 : k < (shF o.disc.toNat (priceL o.ls)).length) (h2 : k < (shF o.tax.toNat (priceL o.ls)).length) (h3 : k < (shF o.ship.toNat (priceL o.ls)).length) (h4 : k < (unitsOf o i).length) :
  (unitsOf o i)[k] = { (expandU i o.ls)[k] with share := (expandU i o.ls)[k].share - (shF o.disc.toNat (priceL o.ls))[k] + (shF o.tax.toNat (priceL o.ls))[k] + (shF o.ship.toNat (priceL o.ls))[k] } := by
 simp only [unitsOf, unitsR, addS, List.getElem_zipWith, psum, psgn]
 congr 1
 omega
section
variable {h0 h : Heap} {l : List HP}
end
end
section
set_option maxHeartbeats 8000000
def fewC (C : Cfg) : Prop := C.os.length ≤ 40 ∧ C.ss.length ≤ 40 ∧ C.ps.length ≤ 40 ∧ ∀ o ∈ C.os, o.ls.length ≤ 20
theorem Few_ok {h0 : Heap} (C : Cfg) (r : C.rd h0) (w : C.wf) :
  CallsH Tryz.prog 24 [.agg C.enc.toArray] h0 fun v h' => v = .bool (dcd (fewC C)) ∧ Fr h0 h' [] := by
 have S := St.nil h0
 have r' : ∀ {h' : Heap} {l : List HP}, St h0 h' l → C.rd h' := fun S => r.fr S.fr
 have hw := w.l1
 have hw2 := w.m1
 by_cases d1 : 40 < (C.os.length : Int)
 ·refine EN i24.eq_1 fun K hK => Wa ?_
  (revert S; (try clear F); refine AL fun g h S F => ?_)
  refine Wd F @Cfg.enc.eq_1 d1 ?_
  exact hK _ _ ⟨by rw [dF (fun h => by have := h.1; omega)], S.fr⟩
 by_cases d2 : 40 < (C.ss.length : Int)
 ·refine EN i24.eq_1 fun K hK => Wa ?_
  (revert S; (try clear F); refine AL fun g h S F => ?_)
  refine We F @Cfg.enc.eq_1 d1 d2 ?_
  exact hK _ _ ⟨by rw [dF (fun h => by have := h.2.1; omega)], S.fr⟩
 by_cases d3 : 40 < (C.ps.length : Int)
 ·refine EN i24.eq_1 fun K hK => Wa ?_
  (revert S; (try clear F); refine AL fun g h S F => ?_)
  refine Wf F @Cfg.enc.eq_1 d1 d2 d3 ?_
  exact hK _ _ ⟨by rw [dF (fun h => by have := h.2.2.1; omega)], S.fr⟩
 refine EN i24.eq_1 fun K hK => Wa ?_
 (revert S; (try clear F); refine AL fun g h S F => ?_)
 refine Wf F @Cfg.enc.eq_1 d1 d2 d3 ?_
 refine lI (fun ρ h' => ρ 1 = .pointer (some ⟨g, 0, none⟩) ∧ ρ 22 = .int .i64 C.os.length ∧ ∃ i : Nat, ρ 23 = .int .i64 i ∧ i ≤ C.os.length ∧ (∀ o ∈ C.os.take i, o.ls.length ≤ 20) ∧ St h0 h' [cellA g C.enc 26]) (fun ρ _ => C.os.length - (iv (ρ 23)).toNat) ?_ ?_
 ·refine Wa ?_
  exact ⟨0, rfl, by omega, by simp, S⟩
 clear S F
 rintro ρ h J hJ ⟨e1, e22, i, e23, hi, hok, S⟩
 refine Wc e22 e23 ?_
 refine cD (fun hlt => ?_) (fun hlt => ?_)
 ·have hil : i < C.os.length := by omega
  obtain ⟨b, off, hA, hr1⟩ := (r' S).os.at hil
  have hmem := l_v hil
  have htk : C.os[i].ls.length ≤ 20 → ∀ o ∈ C.os.take (i + 1), o.ls.length ≤ 20 := fun hx o ho => by
   rw [l_t hil] at ho
   rcases List.mem_append.1 ho with ho | ho
   ·exact hok o ho
   ·rw [l_aa] at ho; rw [ho]; exact hx
  generalize C.os[i] = o at *
  have hq1 := rP hr1 1 (by omega)
  simp only [Odr.enc, l_o, l_p] at hq1
  ((try clear F); have F := S.fx)
  by_cases d4 : 20 < (o.ls.length : Int)
  ·refine Wh e1 e23 F @Cfg.enc.eq_1 hA hq1 d4 ?_
   exact hK _ _ ⟨by rw [dF (fun h => by have := h.2.2.2 _ hmem; omega)], S.fr⟩
  ·refine Wh e1 e23 F @Cfg.enc.eq_1 hA hq1 d4 ?_
   refine hJ _ _ ?_ ?_
   ·refine Wc e1 e22 ?_
    exact ⟨i + 1, rfl, by omega, htk (by omega), S⟩
   ·refine Wb e23 ?_
    omega
 ·obtain rfl : i = C.os.length := by omega
  rw [l_aj] at hok
  refine Wa ?_
  exact hK _ _ ⟨by rw [dT ⟨by omega, by omega, by omega, hok⟩], S.fr⟩
theorem unitsAll_len {C : Cfg} (hok : okCfg C) : ((unitsAll C).length : Int) = totOf C ∧ (unitsAll C).length ≤ 200 := by
 have h1 := ordsU_len (os := C.os) 0 hok.okO
 have h2 := supU_len hok.2.2.2.2.1.1
 have h3 := hok.2.2.2.2.2
 have ht : totOf C = ordSum C.os + supSum C.ss := rfl
 rw [unitsAll, l_m]
 omega
def c0C : Cfg := ⟨none, 0, [], none, 0, [], none, 0, []⟩
theorem c0_ok : okCfg c0C := ⟨⟨by decide, by simp [c0C]⟩, by decide, by decide, by simp [c0C], ⟨by simp [c0C], by simp [c0C]⟩, by decide⟩
end
section
set_option maxHeartbeats 8000000
section
variable {h0 h : Heap} {l : List HP}
end
def linB (l : Lin) : List UInt8 := le 2 l.sku ++ (le 1 l.cat ++ (le 8 l.price ++ le 1 l.count))
def odrB (o : Odr) : List UInt8 := le 4 o.day ++ (le 8 o.disc ++ (le 8 o.tax ++ (le 8 o.ship ++ (le 1 o.ls.length ++ o.ls.flatMap linB))))
def supB (s : Sup) : List UInt8 := le 2 s.sku ++ (le 8 s.price ++ le 1 s.count)
def encC (C : Cfg) : List UInt8 := (le 2 (encT C.ps).length ++ encT C.ps) ++ (le 1 C.os.length ++ (C.os.flatMap odrB ++ (le 1 C.ss.length ++ C.ss.flatMap supB)))
section
variable {h0 h : Heap} {l : List HP}
end
end
section
set_option maxHeartbeats 8000000
def Odr.pu (o : Odr) : Int × Int × Int × Int × List Lin := (o.day, o.disc, o.tax, o.ship, o.ls)
def Cfg.pu (C : Cfg) : List Pol × List Sup × List (Int × Int × Int × Int × List Lin) := (C.ps, C.ss, C.os.map Odr.pu)
end
section
set_option maxHeartbeats 8000000
abbrev Q := List UInt8 × Bool
noncomputable def vi (q : Q) : Int := IntKind.i64.wrap (vl 8 q)
noncomputable def bytesR (q : Q) : List UInt8 × Q := if (stp 2 q).2 = true ∨ (stp 2 q).1.length < (vl 2 q).toNat then ([], ([], true)) else ((stp 2 q).1.take (vl 2 q).toNat, ((stp 2 q).1.drop (vl 2 q).toNat, false))
noncomputable def pLin (q : Q) : Lin × Q := (⟨vl 2 q, vl 1 (stp 2 q), vi (stp 1 (stp 2 q)), vl 1 (stp 8 (stp 1 (stp 2 q)))⟩, stp 1 (stp 8 (stp 1 (stp 2 q))))
noncomputable def pSup (q : Q) : Sup × Q := (⟨vl 2 q, vi (stp 2 q), vl 1 (stp 8 (stp 2 q))⟩, stp 1 (stp 8 (stp 2 q)))
noncomputable def pMany {α : Type} (p : Q → α × Q) : Nat → Q → List α × Q
 | 0, q => ([], q)
 | n + 1, q => ((pMany p n q).1 ++ [(p (pMany p n q).2).1], (p (pMany p n q).2).2)
abbrev POd := Int × Int × Int × Int × List Lin
noncomputable def pOdr (q : Q) : POd × Q :=
 ((vl 4 q, vi (stp 4 q), vi (stp 8 (stp 4 q)), vi (stp 8 (stp 8 (stp 4 q))), (pMany pLin (vl 1 (stp 8 (stp 8 (stp 8 (stp 4 q))))).toNat (stp 1 (stp 8 (stp 8 (stp 8 (stp 4 q)))))).1),
  (pMany pLin (vl 1 (stp 8 (stp 8 (stp 8 (stp 4 q))))).toNat (stp 1 (stp 8 (stp 8 (stp 8 (stp 4 q)))))).2)
theorem pMany_len {α : Type} (p : Q → α × Q) (q : Q) : ∀ n, (pMany p n q).1.length = n
 | 0 => rfl
 | n + 1 => by rw [pMany, l_m, pMany_len p q n]; rfl
theorem vl1 (q : Q) : 0 ≤ vl 1 q ∧ vl 1 q < 256 := by have := rdV_nn 1 q.1 q.2; simpa [vl] using this
theorem vl2 (q : Q) : 0 ≤ vl 2 q ∧ vl 2 q < 65536 := by have := rdV_nn 2 q.1 q.2; simpa [vl] using this
section
variable {h0 h : Heap} {l : List HP} {i : Nat} {q : Q}
end
end
section
set_option maxHeartbeats 8000000
set_option maxRecDepth 20000
def oRow (o : Odr) : HP := ownA Lin.enc 4 93 (.slice o.A o.ls.length o.c) o.ls
theorem st_mem {h0 h : Heap} {L : List HP} {X : HP} (S : St h0 h L) (hx : X ∈ L) : ∃ M, St h0 h (X :: M) := by
 obtain ⟨a, b, rfl⟩ := List.append_of_mem hx
 exact ⟨_, S.perm List.perm_middle⟩
theorem rows_arr {h0 h : Heap} {L l : List HP} {os : List Odr} (S : St h0 h (L ++ (os.map oRow ++ l))) : ∀ o ∈ os, Arr Lin.enc 4 h o.A o.ls ∧ o.ls.length ≤ o.c ∧ o.c < 9223372036854775808 := fun o ho => by
 obtain ⟨M, S⟩ := st_mem S (X := oRow o) (List.mem_append_right _ (List.mem_append_left _ (l_ai ho)))
 obtain ⟨_, h1, h2⟩ := S.cap
 exact ⟨S.arr Lin.enc_len, h1, h2⟩
theorem okOrder_pu {k : Int} {x y : Odr} (h : x.pu = y.pu) : okOrder k x → okOrder k y := by
 obtain ⟨a1, A1, c1, l1, d1, t1, s1⟩ := x
 obtain ⟨a2, A2, c2, l2, d2, t2, s2⟩ := y
 simp only [Odr.pu, Prod.mk.injEq] at h
 obtain ⟨rfl, rfl, rfl, rfl, rfl⟩ := h
 exact id
theorem ordSum_pu : ∀ {xs ys : List Odr}, xs.map Odr.pu = ys.map Odr.pu → ordSum xs = ordSum ys
 | [], [], _ => rfl
 | x :: xs, y :: ys, h => by
  simp only [List.map_cons, List.cons.injEq] at h
  have h1 := ordSum_pu h.2
  have h2 : x.ls = y.ls := congrArg (fun z => z.2.2.2.2) h.1
  simp only [ordSum, List.map_cons, List.sum_cons, h2] at h1 ⊢
  rw [h1]
 | [], y :: ys, h => by simp at h
 | x :: xs, [], h => by simp at h
theorem okCfg_pu {C D : Cfg} (h : C.pu = D.pu) (hok : okCfg C) : okCfg D := by
 have h1 : C.ps = D.ps := congrArg (fun z => z.1) h
 have h2 : C.ss = D.ss := congrArg (fun z => z.2.1) h
 have h3 : C.os.map Odr.pu = D.os.map Odr.pu := congrArg (fun z => z.2.2) h
 have hl : C.os.length = D.os.length := by have := congrArg List.length h3; simpa using this
 obtain ⟨k0, k1, k2, k3, k4, k5⟩ := hok
 refine ⟨h1 ▸ k0, by omega, by rw [← h2]; exact k2, fun o ho => ?_, h2 ▸ k4, ?_⟩
 ·have : o.pu ∈ C.os.map Odr.pu := by rw [h3]; exact l_ai ho
  obtain ⟨x, hx, e⟩ := List.mem_map.1 this
  rw [← h1]
  exact okOrder_pu e (k3 x hx)
 ·have e1 : totOf C = ordSum C.os + supSum C.ss := rfl
  have e2 : totOf D = ordSum D.os + supSum D.ss := rfl
  rw [e2, ← ordSum_pu h3, ← h2, ← e1]
  exact k5
noncomputable def decO (b : List UInt8) : List POd × Q := pMany pOdr (vl 1 (bytesR (b, false)).2).toNat (stp 1 (bytesR (b, false)).2)
noncomputable def decS (b : List UInt8) : List Sup × Q := pMany pSup (vl 1 (decO b).2).toNat (stp 1 (decO b).2)
def Reads (b : List UInt8) (C : Cfg) : Prop := okCfg C ∧ encT C.ps = (bytesR (b, false)).1 ∧ C.os.map Odr.pu = (decO b).1 ∧ C.ss = (decS b).1 ∧ (decS b).2 = ([], false)
section
variable {h0 h : Heap} {l : List HP}
end
end
section
set_option maxHeartbeats 4000000
theorem stp_back {n : Nat} {q : Q} (h : (stp n q).2 = false) : q.2 = false ∧ n ≤ q.1.length ∧ q.1 = le n (vl n q) ++ (stp n q).1 := by
 obtain ⟨bs, bad⟩ := q
 have hx : rdX n bs bad = false := h
 unfold rdX at hx
 simp only [Bool.or_eq_false_iff, decide_eq_false_iff_not] at hx
 obtain ⟨rfl, hl⟩ := hx
 refine ⟨rfl, by simp only; omega, ?_⟩
 show bs = le n (rdV n bs false) ++ rdB n bs false
 rw [rdV, rdB, if_neg (by simp; omega), if_neg (by simp; omega), le_num_n _ n (by rw [l_ad]; omega), List.take_append_drop]
theorem vi_nn {q : Q} (h : 0 ≤ vi q) : vi q = vl 8 q := by
 have hv := rdV_nn 8 q.1 q.2
 have e : vl 8 q = rdV 8 q.1 q.2 := rfl
 rw [← e] at hv
 by_cases hb : vl 8 q < 9223372036854775808
 ·exact wrap_i64 (by omega) hb
 ·exfalso
  have h1 : vl 8 q < 18446744073709551616 := by simpa using hv.2
  have : IntKind.i64.wrap (vl 8 q) = vl 8 q - 18446744073709551616 := by
   generalize vl 8 q = x at *
   simp only [IntKind.wrap, IntKind.signed, IntKind.bits]
   simp
   omega
  unfold vi at h
  omega
def Back {α : Type} (p : Q → α × Q) (f : α → List UInt8) (ok : α → Prop) : Prop := ∀ q, (p q).2.2 = false → ok (p q).1 → q.2 = false ∧ q.1 = f (p q).1 ++ (p q).2.1
theorem many_back {α : Type} {p : Q → α × Q} {f : α → List UInt8} {ok : α → Prop} (hp : Back p f ok) : ∀ n q, (pMany p n q).2.2 = false → (∀ x ∈ (pMany p n q).1, ok x) → q.2 = false ∧ q.1 = (pMany p n q).1.flatMap f ++ (pMany p n q).2.1
 | 0, q, h, _ => ⟨h, by simp [pMany]⟩
 | n + 1, q, h, hok => by
  have hs : pMany p (n + 1) q = ((pMany p n q).1 ++ [(p (pMany p n q).2).1], (p (pMany p n q).2).2) := rfl
  rw [hs] at h hok ⊢
  obtain ⟨h1, h2⟩ := hp _ h (hok _ (by simp))
  obtain ⟨h3, h4⟩ := many_back hp n q h1 fun x hx => hok x (by simp [hx])
  refine ⟨h3, ?_⟩
  rw [h4, h2]
  simp
theorem lin_back (k : Int) : Back pLin linB (okLine k) := by
 intro q h hok
 obtain ⟨h1, _, e1⟩ := stp_back h
 obtain ⟨h2, _, e2⟩ := stp_back h1
 obtain ⟨h3, _, e3⟩ := stp_back h2
 obtain ⟨h4, _, e4⟩ := stp_back h3
 refine ⟨h4, ?_⟩
 have hv : vi (stp 1 (stp 2 q)) = vl 8 (stp 1 (stp 2 q)) := vi_nn hok.1.2.1.1
 show q.1 = (le 2 (vl 2 q) ++ (le 1 (vl 1 (stp 2 q)) ++ (le 8 (vi (stp 1 (stp 2 q))) ++ le 1 (vl 1 (stp 8 (stp 1 (stp 2 q))))))) ++ (stp 1 (stp 8 (stp 1 (stp 2 q)))).1
 rw [hv]
 conv => lhs; rw [e4, e3, e2, e1]
 simp only [l_q]
theorem sup_back : Back pSup supB okSup := by
 intro q h hok
 obtain ⟨h1, _, e1⟩ := stp_back h
 obtain ⟨h2, _, e2⟩ := stp_back h1
 obtain ⟨h3, _, e3⟩ := stp_back h2
 refine ⟨h3, ?_⟩
 have hv : vi (stp 2 q) = vl 8 (stp 2 q) := vi_nn hok.2.1.1
 show q.1 = (le 2 (vl 2 q) ++ (le 8 (vi (stp 2 q)) ++ le 1 (vl 1 (stp 8 (stp 2 q))))) ++ (stp 1 (stp 8 (stp 2 q))).1
 rw [hv]
 conv => lhs; rw [e3, e2, e1]
 simp only [l_q]
def odrBp (x : POd) : List UInt8 := le 4 x.1 ++ (le 8 x.2.1 ++ (le 8 x.2.2.1 ++ (le 8 x.2.2.2.1 ++ (le 1 x.2.2.2.2.length ++ x.2.2.2.2.flatMap linB))))
theorem odrBp_pu (o : Odr) : odrBp o.pu = odrB o := rfl
def okP (k : Int) (x : POd) : Prop := (0 ≤ x.1 ∧ x.1 ≤ 100000) ∧ (x.2.2.2.2.length ≤ 8) ∧ okPrice x.2.1 ∧ okPrice x.2.2.1 ∧ okPrice x.2.2.2.1 ∧ ∀ l ∈ x.2.2.2.2, okLine k l
theorem okP_of {k : Int} {o : Odr} (h : okOrder k o) : okP k o.pu := ⟨h.1.1, h.1.2.1.2, h.1.2.2.1, h.1.2.2.2.1, h.1.2.2.2.2, h.2.1⟩
theorem odr_back (k : Int) : Back pOdr odrBp (okP k) := by
 intro q h hok
 obtain ⟨_, _, ⟨p1, _⟩, ⟨p2, _⟩, ⟨p3, _⟩, hl⟩ := hok
 obtain ⟨h0, e0⟩ := many_back (lin_back k) _ _ h hl
 obtain ⟨h1, _, e1⟩ := stp_back h0
 obtain ⟨h2, _, e2⟩ := stp_back h1
 obtain ⟨h3, _, e3⟩ := stp_back h2
 obtain ⟨h4, _, e4⟩ := stp_back h3
 obtain ⟨h5, _, e5⟩ := stp_back h4
 refine ⟨h5, ?_⟩
 have v1 : vi (stp 4 q) = vl 8 (stp 4 q) := vi_nn p1
 have v2 : vi (stp 8 (stp 4 q)) = vl 8 (stp 8 (stp 4 q)) := vi_nn p2
 have v3 : vi (stp 8 (stp 8 (stp 4 q))) = vl 8 (stp 8 (stp 8 (stp 4 q))) := vi_nn p3
 have hn := vl1 (stp 8 (stp 8 (stp 8 (stp 4 q))))
 have hln : (((pMany pLin (vl 1 (stp 8 (stp 8 (stp 8 (stp 4 q))))).toNat (stp 1 (stp 8 (stp 8 (stp 8 (stp 4 q)))))).1.length : Nat) : Int) = vl 1 (stp 8 (stp 8 (stp 8 (stp 4 q)))) := by rw [pMany_len]; omega
 show q.1 = (le 4 (vl 4 q) ++ (le 8 (vi (stp 4 q)) ++ (le 8 (vi (stp 8 (stp 4 q))) ++ (le 8 (vi (stp 8 (stp 8 (stp 4 q)))) ++ (le 1 ((pMany pLin (vl 1 (stp 8 (stp 8 (stp 8 (stp 4 q))))).toNat (stp 1 (stp 8 (stp 8 (stp 8 (stp 4 q)))))).1.length : Nat) ++ (pMany pLin (vl 1 (stp 8 (stp 8 (stp 8 (stp 4 q))))).toNat (stp 1 (stp 8 (stp 8 (stp 8 (stp 4 q)))))).1.flatMap linB))))) ++ (pMany pLin (vl 1 (stp 8 (stp 8 (stp 8 (stp 4 q))))).toNat (stp 1 (stp 8 (stp 8 (stp 8 (stp 4 q)))))).2.1
 rw [hln, v1, v2, v3]
 conv => lhs; rw [e5, e4, e3, e2, e1, e0]
 simp only [l_q]
theorem flat_pu (os : List Odr) : (os.map Odr.pu).flatMap odrBp = os.flatMap odrB := by
 induction os with
 | nil => rfl
 | cons o os ih => rw [List.map_cons, List.flatMap_cons, List.flatMap_cons, ih, odrBp_pu]
theorem Reads.bytes {b : List UInt8} {C : Cfg} (h : Reads b C) : encC C = b := by
 obtain ⟨hok, h1, h2, h3, h4⟩ := h
 obtain ⟨k0, k1, k2, k3, k4, k5⟩ := hok
 have g1 := many_back sup_back _ (stp 1 (decO b).2) (show (decS b).2.2 = false by rw [h4]) (fun x hx => k4.1 x (by rw [h3]; exact hx))
 obtain ⟨g2, g3⟩ := g1
 obtain ⟨g4, _, g5⟩ := stp_back g2
 have g6 := many_back (odr_back C.ps.length) _ (stp 1 (bytesR (b, false)).2) g4 (fun x hx => by
  have hx : x ∈ (decO b).1 := hx
  rw [← h2] at hx
  obtain ⟨o, ho, rfl⟩ := List.mem_map.1 hx
  exact okP_of (k3 o ho))
 obtain ⟨g7, g8⟩ := g6
 obtain ⟨g9, _, g10⟩ := stp_back g7
 have hO : pMany pOdr (vl 1 (bytesR (b, false)).2).toNat (stp 1 (bytesR (b, false)).2) = decO b := rfl
 have hS : pMany pSup (vl 1 (decO b).2).toNat (stp 1 (decO b).2) = decS b := rfl
 rw [hS, h4, ← h3, l_am] at g3
 rw [hO, ← h2, flat_pu] at g8
 have n1 : vl 1 (bytesR (b, false)).2 = (C.os.length : Int) := by
  have := congrArg List.length h2
  rw [← hO, pMany_len, l_z] at this
  have := vl1 (bytesR (b, false)).2
  omega
 have n2 : vl 1 (decO b).2 = (C.ss.length : Int) := by
  have := congrArg List.length h3
  rw [← hS, pMany_len] at this
  have := vl1 (decO b).2
  omega
 rw [n1] at g10
 rw [n2] at g5
 have hb : b = le 2 (bytesR (b, false)).1.length ++ ((bytesR (b, false)).1 ++ (bytesR (b, false)).2.1) := by
  have hv := vl2 (b, false)
  by_cases hc : (stp 2 (b, false)).2 = true ∨ (stp 2 (b, false)).1.length < (vl 2 (b, false)).toNat
  ·have : bytesR (b, false) = ([], ([], true)) := by unfold bytesR; rw [if_pos hc]
   rw [this] at g9
   cases g9
  ·have hR : bytesR (b, false) = ((stp 2 (b, false)).1.take (vl 2 (b, false)).toNat, ((stp 2 (b, false)).1.drop (vl 2 (b, false)).toNat, false)) := by unfold bytesR; rw [if_neg hc]
   have hbf : (stp 2 (b, false)).2 = false := by cases h : (stp 2 (b, false)).2 with
    | false => rfl
    | true => exact (hc (.inl h)).elim
   obtain ⟨_, _, e⟩ := stp_back hbf
   have hln : ((stp 2 (b, false)).1.take (vl 2 (b, false)).toNat).length = (vl 2 (b, false)).toNat := by rw [l_ad]; omega
   rw [hR]
   simp only [hln, List.take_append_drop]
   rw [Int.toNat_of_nonneg hv.1]
   exact e
 rw [encC, h1]
 conv => rhs; rw [hb, g10, g8, g5, g3]
 simp only [l_q]
end
section
set_option maxHeartbeats 8000000
section
variable {h0 h : Heap} {l : List HP}
theorem CloneO_ok {A : Option Addr} {n c : Nat} {xs : List Odr} (S : St h0 h l) (ha : Arr Odr.enc 5 h A xs) (hn : n = xs.length) (hl : xs.length < 1000000000) :
  CallsH Tryz.prog 43 [.slice A n c] h fun v h' => St h0 h' (ownA Odr.enc 5 90 v xs :: l) :=
 (clone_ok (T := 90) (sz := 5) (bytes := 56) i43.2 Odr.enc_len (by omega) Odr.enc_plain rfl ha hn (arr_none ha) (by omega) (by omega)).mono fun v h' ⟨ho, hf, _⟩ => S.ownNew hf ho
theorem CloneL_ok {A : Option Addr} {n c : Nat} {xs : List Lin} (S : St h0 h l) (ha : Arr Lin.enc 4 h A xs) (hn : n = xs.length) (hl : xs.length < 1000000000) :
  CallsH Tryz.prog 44 [.slice A n c] h fun v h' => St h0 h' (ownA Lin.enc 4 93 v xs :: l) :=
 (clone_ok (T := 93) (sz := 4) (bytes := 32) i44.2 Lin.enc_len (by omega) Lin.enc_plain rfl ha hn (arr_none ha) (by omega) (by omega)).mono fun v h' ⟨ho, hf, _⟩ => S.ownNew hf ho
theorem CloneS_ok {A : Option Addr} {n c : Nat} {xs : List Sup} (S : St h0 h l) (ha : Arr Sup.enc 3 h A xs) (hn : n = xs.length) (hl : xs.length < 1000000000) :
  CallsH Tryz.prog 45 [.slice A n c] h fun v h' => St h0 h' (ownA Sup.enc 3 95 v xs :: l) :=
 (clone_ok (T := 95) (sz := 3) (bytes := 24) i45.2 Sup.enc_len (by omega) Sup.enc_plain rfl ha hn (arr_none ha) (by omega) (by omega)).mono fun v h' ⟨ho, hf, _⟩ => S.ownNew hf ho
theorem CloneP_ok {A : Option Addr} {n c : Nat} {xs : List Pol} (S : St h0 h l) (ha : Arr Pol.enc 16 h A xs) (hn : n = xs.length) (hl : xs.length < 100000) :
  CallsH Tryz.prog 46 [.slice A n c] h fun v h' => St h0 h' (ownA Pol.enc 16 105 v xs :: l) :=
 (clone_ok (T := 105) (sz := 16) i46.2 Pol.enc_len (by omega) Pol.enc_plain rfl ha hn (arr_none ha) (by omega) (by omega)).mono fun v h' ⟨ho, hf, _⟩ => S.ownNew hf ho
theorem OClone_ok (C : Cfg) (r : ∀ h', St h0 h' l → C.rd h') (l1 : C.os.length < 100000) (l2 : C.ss.length < 100000) (l3 : C.ps.length < 100000) (l4 : ∀ o ∈ C.os, o.ls.length < 100000) (S : St h0 h l) :
  CallsH Tryz.prog 28 [.agg C.enc.toArray] h fun v h' => ∃ D : Cfg, v = .agg D.enc.toArray ∧ D.wf ∧ D.pu = C.pu ∧ St h0 h' (ownA Odr.enc 5 90 (.slice D.A1 D.os.length D.c1) D.os :: ownA Sup.enc 3 95 (.slice D.A2 D.ss.length D.c2) D.ss :: ownA Pol.enc 16 105 (.slice D.A3 D.ps.length D.c3) D.ps :: (D.os.map oRow ++ l)) := by
 refine EN i28.eq_1 fun K hK => Wa ?_
 (revert S; (try clear F); refine AL fun g h S F => ?_)
 refine Wa ?_
 (revert S; (try clear F); refine AL fun p h S F => ?_)
 refine Wc F @Cfg.enc.eq_1 ?_
 refine cI (CloneO_ok S (r _ S.tl.tl).os rfl (by omega)) ?_
 clear S F
 intro v h S
 obtain ⟨A1, c1, rfl⟩ := S.sl
 refine Wa ?_
 refine tS S.p2 rfl rfl (l_a rfl) ?_
 clear S
 intro h S
 rw [Cfg.enc] at S
 replace S := S.nm
 ((try clear F); have F := S.fx)
 refine Wb F ?_
 refine lI (fun ρ h' => ρ 1 = .pointer (some ⟨g, 0, none⟩) ∧ ρ 2 = .pointer (some ⟨p, 0, none⟩) ∧ ρ 10 = .int .i64 C.os.length ∧ ∃ (i : Nat) (ys : List Odr), ρ 11 = .int .i64 i ∧ i ≤ C.os.length ∧ ys.length = i ∧ ys.map Odr.pu = (C.os.take i).map Odr.pu ∧
  St h0 h' (cellA g [.slice A1 C.os.length c1, .slice C.A2 C.ss.length C.c2, .slice C.A3 C.ps.length C.c3] 26 :: ownA Odr.enc 5 90 (.slice A1 C.os.length c1) (ys ++ C.os.drop i) :: cellA p [.slice none 0 0, .slice none 0 0, .slice none 0 0] 26 :: (ys.map oRow ++ l))) (fun ρ _ => C.os.length - (iv (ρ 11)).toNat) ?_ ?_
 ·refine Wa ?_
  exact ⟨0, [], rfl, by omega, rfl, rfl, S⟩
 clear S F
 rintro ρ h J hJ ⟨e1, e2, e10, i, ys, e11, hi, hyl, hyp, S⟩
 refine Wc e10 e11 ?_
 refine cD (fun hlt => ?_) (fun hlt => ?_)
 ·have hil : i < C.os.length := by omega
  have hmem := l_v hil
  obtain ⟨b, rfl⟩ := S.p1.ownAt (by rw [l_m, List.length_drop]; omega)
  have hwl : i < (ys ++ C.os.drop i).length := by rw [l_m, List.length_drop]; omega
  have hget : (ys ++ C.os.drop i)[i]'hwl = C.os[i] := by
   rw [List.getElem_append_right (by omega)]
   simp [hyl]
  have hel := own_part Odr.enc_len S.p1 (i := i) (j := 1) hwl (by omega)
  rw [hget] at hel
  have hg0 := st_rd1 (off := 0) S
  simp only [l_o] at hg0
  have hrl := (r _ S.tl.tl.tl.dropL).ls _ hmem
  have hl4 := l4 _ hmem
  have hset : ∀ y : Odr, (ys ++ C.os.drop i).set i y = (ys ++ [y]) ++ C.os.drop (i + 1) := fun y => by
   rw [List.set_append_right _ _ (by omega), hyl, Nat.sub_self, List.drop_eq_getElem_cons hil, l_h, l_q]
   rfl
  have htk : (C.os.take (i + 1)).map Odr.pu = (C.os.take i).map Odr.pu ++ [C.os[i].pu] := by rw [l_t hil, l_al]; rfl
  generalize C.os[i] = o at *
  simp only [Odr.enc, l_p, l_o] at hel
  have hI : (fun h' => rd1 h' (.pointer (some ⟨g, 0, none⟩)) = some (.slice (some ⟨b, 0, none⟩) C.os.length c1) ∧ rd1 h' (.pointer (some ⟨b, i * 5 + 1, none⟩)) = some (.slice o.A o.ls.length o.c)) h := ⟨hg0, hel⟩
  have rx : ∀ K t, readT (fun h' => rd1 h' (.pointer (some ⟨g, 0, none⟩)) = some (.slice (some ⟨b, 0, none⟩) C.os.length c1) ∧ rd1 h' (.pointer (some ⟨b, i * 5 + 1, none⟩)) = some (.slice o.A o.ls.length o.c)) (fun h' => rd1 h' (.pointer (some ⟨g, 0, none⟩))) K t = K (.slice (some ⟨b, 0, none⟩) C.os.length c1) := fun K t => rI (fun h' hh => hh.1) h hI
  have ry : ∀ K t, readT (fun h' => rd1 h' (.pointer (some ⟨g, 0, none⟩)) = some (.slice (some ⟨b, 0, none⟩) C.os.length c1) ∧ rd1 h' (.pointer (some ⟨b, i * 5 + 1, none⟩)) = some (.slice o.A o.ls.length o.c)) (fun h' => rd1 h' (.pointer (some ⟨b, i * 5 + 1, none⟩))) K t = K (.slice o.A o.ls.length o.c) := fun K t => rI (fun h' hh => hh.2) h hI
  refine Wa ?_
  refine dI (fun h' => rd1 h' (.pointer (some ⟨g, 0, none⟩)) = some (.slice (some ⟨b, 0, none⟩) C.os.length c1) ∧ rd1 h' (.pointer (some ⟨b, i * 5 + 1, none⟩)) = some (.slice o.A o.ls.length o.c)) hI ?_
  refine We e1 e11 rx ry ?_
  refine cI (CloneL_ok S hrl rfl (by omega)) ?_
  clear S rx ry hI hel hg0 hrl
  intro v h S
  obtain ⟨A', c', rfl⟩ := S.sl
  have hel := own_part Odr.enc_len S.p2 (i := i) (j := 1) hwl (by omega)
  rw [hget] at hel
  simp only [Odr.enc, l_p, l_o] at hel
  refine ⟨⟨st_rd1 (off := 0) S.p1, hel⟩, ?_⟩
  refine Wa ?_
  refine st_setPart Odr.enc_len (i := i) (j := 1) (x := { o with A := A', c := c' }) S.p2 hwl (by omega) (l_a rfl) rfl rfl (by rw [hget]; rfl) ?_
  clear S hel
  intro h S
  rw [hset] at S
  refine Wb e11 ?_
  refine hJ _ _ ?_ ?_
  ·refine Wd e1 e2 e10 ?_
   refine ⟨i + 1, ys ++ [{ o with A := A', c := c' }], rfl, by omega, by rw [l_m, hyl]; rfl, by rw [htk, l_al, hyp]; rfl, ?_⟩
   rw [l_al, l_q (ys.map oRow)]
   have S : St h0 h (_ :: _ :: _ :: oRow { o with A := A', c := c' } :: (ys.map oRow ++ l)) := S.p2.p2.p3.p3.p3
   exact S.perm (.cons _ (.cons _ (.cons _ List.perm_middle.symm)))
  ·refine Wb e11 ?_
   omega
 obtain rfl : i = C.os.length := by omega
 rw [l_aj] at hyp
 rw [List.drop_length, l_am] at S
 clear hJ
 have hg1 := st_rd1 (off := 1) S
 have hg2 := st_rd1 (off := 2) S
 simp only [l_p, l_o] at hg1 hg2
 have hrr := r _ S.tl.tl.tl.dropL
 have hI : (fun h' => rd1 h' (.pointer (some ⟨g, 1, none⟩)) = some (.slice C.A2 C.ss.length C.c2) ∧ rd1 h' (.pointer (some ⟨g, 2, none⟩)) = some (.slice C.A3 C.ps.length C.c3)) h := ⟨hg1, hg2⟩
 have rx : ∀ K t, readT (fun h' => rd1 h' (.pointer (some ⟨g, 1, none⟩)) = some (.slice C.A2 C.ss.length C.c2) ∧ rd1 h' (.pointer (some ⟨g, 2, none⟩)) = some (.slice C.A3 C.ps.length C.c3)) (fun h' => rd1 h' (.pointer (some ⟨g, 1, none⟩))) K t = K (.slice C.A2 C.ss.length C.c2) := fun K t => rI (fun h' hh => hh.1) h hI
 have ry : ∀ K t, readT (fun h' => rd1 h' (.pointer (some ⟨g, 1, none⟩)) = some (.slice C.A2 C.ss.length C.c2) ∧ rd1 h' (.pointer (some ⟨g, 2, none⟩)) = some (.slice C.A3 C.ps.length C.c3)) (fun h' => rd1 h' (.pointer (some ⟨g, 2, none⟩))) K t = K (.slice C.A3 C.ps.length C.c3) := fun K t => rI (fun h' hh => hh.2) h hI
 refine Wa ?_
 refine dI (fun h' => rd1 h' (.pointer (some ⟨g, 1, none⟩)) = some (.slice C.A2 C.ss.length C.c2) ∧ rd1 h' (.pointer (some ⟨g, 2, none⟩)) = some (.slice C.A3 C.ps.length C.c3)) hI ?_
 refine Wd e1 rx ry ?_
 refine cI (CloneS_ok S hrr.ss rfl (by omega)) ?_
 clear S rx ry hI hg1 hg2 hrr
 intro v h S
 obtain ⟨A2, c2, rfl⟩ := S.sl
 refine ⟨⟨st_rd1 (off := 1) S.p1, st_rd1 (off := 2) S.p1⟩, ?_⟩
 have hrr := r _ S.tl.tl.tl.tl.dropL
 refine Wb e1 ?_
 refine cI (CloneP_ok S hrr.ps rfl (by omega)) ?_
 clear S hrr
 intro v h S
 obtain ⟨A3, c3, rfl⟩ := S.sl
 refine Wa ?_
 refine tS S.p2 rfl rfl (l_a rfl) ?_
 clear S
 intro h S
 replace S := S.nm
 refine Wb e1 ?_
 refine tS S rfl rfl (l_a rfl) ?_
 clear S
 intro h S
 replace S := S.nm
 ((try clear F); have F := S.fx)
 refine Wd e1 F e2 ?_
 refine tS S.p4 rfl rfl (l_a rfl) ?_
 clear S F
 intro h S
 replace S := S.nm
 ((try clear F); have F := S.fx)
 refine Wc e2 F ?_
 obtain ⟨D, hD⟩ : ∃ D : Cfg, D = ⟨A1, c1, ys, A2, c2, C.ss, A3, c3, C.ps⟩ := ⟨_, rfl⟩
 refine hK _ _ ⟨D, ?_, ?_, ?_, ?_⟩
 ·rw [hD, Cfg.enc, hyl]
 ·have S := S.tl.tl
  have R := rows_arr (L := [_, _, _]) S
  obtain ⟨_, x1, x2⟩ := S.cap
  obtain ⟨_, y1, y2⟩ := S.p1.cap
  obtain ⟨_, z1, z2⟩ := S.p2.cap
  subst hD
  exact ⟨by simp only [hyl]; exact z1, z2, y1, y2, x1, x2, fun o ho => (R o ho).2⟩
 ·rw [hD]
  simp only [Cfg.pu, hyp]
 ·rw [hD]
  simp only [hyl]
  exact S.tl.tl.p1.p2
end
end
end Go.Proofs.YtcgbhcgfdcfmaaaGreat.MX
