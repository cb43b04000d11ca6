import Derived.Test.YtcgbhcgfdcfmaaaGreatK13
import Derived.Test.YtcgbhcgfdcfmaaaGreatK11
import Derived.Test.YtcgbhcgfdcfmaaaGreatK08
import Derived.Test.YtcgbhcgfdcfmaaaGreatIR
namespace Go.Proofs.YtcgbhcgfdcfmaaaGreat.MX
open Go Go.Proofs
set_option linter.unusedSimpArgs false
set_option linter.unusedVariables false
section
set_option maxHeartbeats 8000000
theorem rightOrder_ok {h0 : Heap} (o : Odr) (k : Int) (ha : Arr Lin.enc 4 h0 o.A o.ls) (hl : o.ls.length < 1000000000) :
  CallsH Tryz.prog 65 [.agg o.enc.toArray, .int .i64 k] h0 fun v h' => (∃ n : Int, v = .tuple #[.int .i64 n, .bool (dcd (okOrder k o))] ∧ (okOrder k o → n = cntOf o.ls)) ∧ Fr h0 h' [] := by
 have S := St.nil h0
 by_cases d1 : o.day < 0
 ·refine EN i65.eq_1 fun K hK => Wa ?_
  (revert S; (try clear F); refine AL fun g h S F => ?_)
  refine Wd F @Odr.enc.eq_1 d1 ?_
  exact hK _ _ ⟨⟨0, by rw [dF (fun h => by have := h.1.1.1; omega)], fun h => by have := h.1.1.1; omega⟩, S.fr⟩
 by_cases d2 : 100000 < o.day
 ·refine EN i65.eq_1 fun K hK => Wa ?_
  (revert S; (try clear F); refine AL fun g h S F => ?_)
  refine We F @Odr.enc.eq_1 d1 d2 ?_
  exact hK _ _ ⟨⟨0, by rw [dF (fun h => by have := h.1.1.2; omega)], fun h => by have := h.1.1.2; omega⟩, S.fr⟩
 by_cases d3 : (o.ls.length : Int) < 1
 ·refine EN i65.eq_1 fun K hK => Wa ?_
  (revert S; (try clear F); refine AL fun g h S F => ?_)
  refine Wf F @Odr.enc.eq_1 d1 d2 d3 ?_
  exact hK _ _ ⟨⟨0, by rw [dF (fun h => by have := h.1.2.1.1; omega)], fun h => by have := h.1.2.1.1; omega⟩, S.fr⟩
 by_cases d4 : 8 < (o.ls.length : Int)
 ·refine EN i65.eq_1 fun K hK => Wa ?_
  (revert S; (try clear F); refine AL fun g h S F => ?_)
  refine Wg F @Odr.enc.eq_1 d1 d2 d3 d4 ?_
  exact hK _ _ ⟨⟨0, by rw [dF (fun h => by have := h.1.2.1.2; omega)], fun h => by have := h.1.2.1.2; omega⟩, S.fr⟩
 refine EN i65.eq_1 fun K hK => Wa ?_
 (revert S; (try clear F); refine AL fun g h S F => ?_)
 refine Wg F @Odr.enc.eq_1 d1 d2 d3 d4 ?_
 refine cI (oprice_ok _ _) ?_
 rintro _ _ ⟨rfl, rfl⟩
 by_cases d5 : okPrice o.disc
 case neg =>
  rw [dF d5]
  refine Wa ?_
  exact hK _ _ ⟨⟨0, by rw [dF (fun h => d5 h.1.2.2.1)], fun h => (d5 h.1.2.2.1).elim⟩, S.fr⟩
 rw [dT d5]
 refine Wc F @Odr.enc.eq_1 ?_
 refine cI (oprice_ok _ _) ?_
 rintro _ _ ⟨rfl, rfl⟩
 by_cases d6 : okPrice o.tax
 case neg =>
  rw [dF d6]
  refine Wa ?_
  exact hK _ _ ⟨⟨0, by rw [dF (fun h => d6 h.1.2.2.2.1)], fun h => (d6 h.1.2.2.2.1).elim⟩, S.fr⟩
 rw [dT d6]
 refine Wc F @Odr.enc.eq_1 ?_
 refine cI (oprice_ok _ _) ?_
 rintro _ _ ⟨rfl, rfl⟩
 by_cases d7 : okPrice o.ship
 case neg =>
  rw [dF d7]
  refine Wa ?_
  exact hK _ _ ⟨⟨0, by rw [dF (fun h => d7 h.1.2.2.2.2)], fun h => (d7 h.1.2.2.2.2).elim⟩, S.fr⟩
 rw [dT d7]
 have hhead : okHead o := ⟨⟨by omega, by omega⟩, ⟨by omega, by omega⟩, d5, d6, d7⟩
 refine Wc F @Odr.enc.eq_1 ?_
 refine lI (fun ρ h' => ρ 1 = .int .i64 k ∧ ρ 2 = .pointer (some ⟨g, 0, none⟩) ∧ ρ 49 = .slice o.A o.ls.length o.c ∧ ρ 50 = .int .i64 o.ls.length ∧ ∃ i : Nat, ρ 51 = .int .i64 i ∧ i ≤ o.ls.length ∧ (∀ l ∈ o.ls.take i, okLine k l) ∧ ρ 6 = .int .i64 (cntOf (o.ls.take i)) ∧ ρ 7 = .int .i64 (allOf (o.ls.take i)) ∧
  St h0 h' [cellA g o.enc 90]) (fun ρ _ => o.ls.length - (iv (ρ 51)).toNat) ?_ ?_
 ·refine Wa ?_
  exact ⟨0, rfl, by omega, by simp, rfl, rfl, S⟩
 clear S F
 rintro ρ h J hJ ⟨e1, e2, e49, e50, i, e51, hi, hok, e6, e7, S⟩
 refine Wc e50 e51 ?_
 refine cD (fun hlt => ?_) (fun hlt => ?_)
 ·have hil : i < o.ls.length := by omega
  obtain ⟨b, off, hA, hr1⟩ := (ha.fr S.fr (by simp)).at hil
  have hlb := all_bound hok
  have hlen : (o.ls.take i).length ≤ 8 := by rw [l_ad]; omega
  have hmem := l_v hil
  have hs1 := allOf_snoc hil
  have hs2 := cntOf_snoc hil
  have hbad : ¬ okLine k o.ls[i] → ¬ okOrder k o := fun hn h => hn (h.2.1 _ hmem)
  have htk : okLine k o.ls[i] → ∀ l ∈ o.ls.take (i + 1), okLine k l := fun hx l hl => by
   rw [l_t hil] at hl
   rcases List.mem_append.1 hl with hl | hl
   ·exact hok l hl
   ·rw [l_aa] at hl; rw [hl]; exact hx
  generalize o.ls[i] = x at *
  refine We e49 e51 hA hr1 ?_
  (revert S; (try clear F); refine AL fun q h S F => ?_)
  refine Wc F @Lin.enc.eq_1 ?_
  (revert S; (try clear F); refine ST fun h S F => ?_)
  refine Wb F ?_
  refine cI (some_ok _ _ _ _) ?_
  rintro _ _ ⟨rfl, rfl⟩
  by_cases c1 : okSome x.sku x.price x.count
  case neg =>
   rw [dF c1]
   refine Wa ?_
   exact hK _ _ ⟨⟨0, by rw [dF (hbad fun h => c1 h.1)], fun h => (hbad (fun h => c1 h.1) h).elim⟩, S.fr⟩
  rw [dT c1]
  by_cases c2 : x.cat < 0
  ·refine Wc F c2 ?_
   exact hK _ _ ⟨⟨0, by rw [dF (hbad fun h => by have := h.2.1; omega)], fun h => (hbad (fun h => by have := h.2.1; omega) h).elim⟩, S.fr⟩
  by_cases c3 : k ≤ x.cat
  ·refine We F c2 e1 c3 ?_
   exact hK _ _ ⟨⟨0, by rw [dF (hbad fun h => by have := h.2.2; omega)], fun h => (hbad (fun h => by have := h.2.2; omega) h).elim⟩, S.fr⟩
  have hx : okLine k x := ⟨c1, by omega, by omega⟩
  have hxb := line_bound hx
  have w1 : IntKind.i64.wrap (cntOf (o.ls.take i) + x.count) = cntOf (o.ls.take i) + x.count := by
   have := c1.2.2
   exact wrap_i64 (by omega) (by omega)
  have w2 : IntKind.i64.wrap (x.price * x.count) = x.price * x.count := wrap_i64 (by omega) (by omega)
  have w3 : IntKind.i64.wrap (allOf (o.ls.take i) + x.price * x.count) = allOf (o.ls.take i) + x.price * x.count := wrap_i64 (by omega) (by omega)
  refine Wi F c2 e1 c3 e6 e7 w1 (Pd w2 w3 e51) ?_
  refine hJ _ _ ?_ ?_
  ·refine Wf e1 e2 e49 e50 hA ?_
   exact ⟨i + 1, rfl, by omega, htk hx, by rw [hs2], by rw [hs1], S.tl⟩
  ·refine Wb e51 ?_
   omega
 ·obtain rfl : i = o.ls.length := by omega
  rw [l_aj] at hok e6 e7
  ((try clear F); have F := S.fx)
  refine Wa ?_
  refine dE ?_
  refine Wf e2 e6 e7 F @Odr.enc.eq_1 ?_
  refine hK _ _ ⟨⟨_, congrArg (fun b => Value.tuple #[.int .i64 (cntOf o.ls), .bool b]) (congrArg dcd (propext ⟨fun h => ⟨hhead, hok, h⟩, fun h => h.2.2⟩)), fun _ => rfl⟩, S.fr⟩
end
section
set_option maxHeartbeats 8000000
theorem arrTake {α : Type} {enc : α → List Value} {sz : Nat} {h : Heap} {A : Option Addr} {xs : List α} (ha : Arr enc sz h A xs) (k : Nat) : Arr enc sz h A (xs.take k) := by
 intro i hi
 rw [l_ad] at hi
 obtain ⟨b, off, e, hr⟩ := ha i (by omega)
 exact ⟨b, off, e, by rw [List.getElem_take]; exact hr⟩
def ordSum (os : List Odr) : Int := (os.map fun o => cntOf o.ls).sum
def supSum (ss : List Sup) : Int := (ss.map Sup.count).sum
theorem ordSum_snoc {os : List Odr} {i : Nat} (hi : i < os.length) : ordSum (os.take (i + 1)) = ordSum (os.take i) + cntOf os[i].ls := by
 rw [l_t hi, ordSum, l_al, List.sum_append]
 simp [ordSum]
theorem supSum_snoc {ss : List Sup} {i : Nat} (hi : i < ss.length) : supSum (ss.take (i + 1)) = supSum (ss.take i) + ss[i].count := by
 rw [l_t hi, supSum, l_al, List.sum_append]
 simp [supSum]
theorem ord_bound {k : Int} : ∀ {os : List Odr}, (∀ o ∈ os, okOrder k o) → 0 ≤ ordSum os ∧ ordSum os ≤ 400 * os.length
 | [], _ => by simp [ordSum]
 | x :: os, h => by
  obtain ⟨⟨_, hx, _⟩, h1, _⟩ := h x (by simp)
  have h1 := all_bound h1
  have h2 := ord_bound (os := os) fun y hy => h y (by simp [hy])
  unfold ordSum at h2 ⊢
  simp only [List.map_cons, List.sum_cons, l_f]
  omega
theorem sup_bound : ∀ {ss : List Sup}, (∀ s ∈ ss, okSup s) → 0 ≤ supSum ss ∧ supSum ss ≤ 50 * ss.length
 | [], _ => by simp [supSum]
 | x :: ss, h => by
  obtain ⟨_, _, h1⟩ := h x (by simp)
  have h2 := sup_bound (ss := ss) fun y hy => h y (by simp [hy])
  unfold supSum at h2 ⊢
  simp only [List.map_cons, List.sum_cons, l_f]
  omega
theorem sups_snoc {ss : List Sup} {i : Nat} (hi : i < ss.length) (h : okSups (ss.take i)) (hs : okSup ss[i]) (hn : ¬ ∃ x ∈ ss.take i, x.sku = ss[i].sku) : okSups (ss.take (i + 1)) := by
 rw [l_t hi]
 refine ⟨fun x hx => ?_, ?_⟩
 ·rcases List.mem_append.1 hx with hx | hx
  ·exact h.1 x hx
  ·rw [l_aa] at hx; rw [hx]; exact hs
 ·rw [List.pairwise_append]
  refine ⟨h.2, by simp, fun a ha b hb => ?_⟩
  rw [l_aa] at hb
  rw [hb]
  exact fun e => hn ⟨a, ha, e⟩
theorem sups_no {ss : List Sup} {i : Nat} (hi : i < ss.length) (h : okSups ss) : okSup ss[i] ∧ ¬ ∃ x ∈ ss.take i, x.sku = ss[i].sku := by
 refine ⟨h.1 _ (l_v hi), ?_⟩
 rintro ⟨x, hx, e⟩
 have hp := h.2
 rw [show ss = ss.take i ++ ss.drop i from (List.take_append_drop i ss).symm, List.pairwise_append] at hp
 exact hp.2.2 x hx ss[i] (by rw [List.drop_eq_getElem_cons hi]; exact l_n ..) e
section
variable {h0 h : Heap} {l : List HP}
theorem supAsk {p : Nat} {s : Sup} (S : St h0 h (cellA p s.enc 95 :: l)) : Asks Tryz.prog Sup.enc h [] (.func (.func 68) #[] (List.toArray [.pointer (some ⟨p, 0, none⟩)])) fun m => dcd (m.sku = s.sku) := by
 refine ⟨_, _, rfl, ok_order_Right_1, fun x h' hf => ?_⟩
 have S := S.frame hf
 have S2 : St h' h' [] := St.nil h'
 have hr : ∀ h'', Fr h' h'' [] → rd1 h'' (.pointer (some ⟨p, 0, none⟩)) = some (.int .i64 s.sku) := fun h'' hf => st_rd1 (S.frame hf)
 refine EN i68.eq_1 fun K hK => Wa ?_
 refine tA S2 ?_
 clear S2
 intro b h'' S2
 ((try clear F); have F := S.fx)
 clear F
 have F := S2.fx
 (try simp (disch := first|omega|assumption|exact l_a rfl) only [go_sem, ↓wBk, simprocAttr, F, Sup.enc, hr _ S2.fr])
 exact hK _ _ ⟨rfl, S2.fr⟩
theorem ContainsS_ok {p n c : Nat} {s : Sup} {A : Option Addr} {xs : List Sup} (S : St h0 h (cellA p s.enc 95 :: l)) (ha : Arr Sup.enc 3 h A xs) (hn : n = xs.length) (hl : xs.length < 1000000) :
  CallsH Tryz.prog 67 [.slice A n c, .func (.func 68) #[] (List.toArray [.pointer (some ⟨p, 0, none⟩)])] h fun v h' => v = .bool (dcd (∃ x ∈ xs, x.sku = s.sku)) ∧ Fr h h' [] := by
 subst hn
 refine EN i67.eq_1 fun K hK => Wa ?_
 refine cI (indexFunc_ok (sz := 3) (p := fun m : Sup => dcd (m.sku = s.sku)) i107.2 ha rfl (by omega) (supAsk S)) ?_
 rintro _ h1 ⟨rfl, hf⟩
 rcases idxOf_spec (fun m : Sup => dcd (m.sku = s.sku)) xs 0 with ⟨hx, hall⟩ | ⟨i, hx, hil, hbef, hat⟩
 ·have hx : idxOf (fun m : Sup => dcd (m.sku = s.sku)) xs 0 = -1 := hx
  refine Wb hx ?_
  refine hK _ _ ⟨?_, hf⟩
  rw [dF]
  rintro ⟨p, hp, hn⟩
  have := hall p hp
  rw [dT hn] at this
  cases this
 ·have hx : idxOf (fun m : Sup => dcd (m.sku = s.sku)) xs 0 = (i : Int) := by simpa using hx
  refine Wb hx ?_
  refine hK _ _ ⟨?_, hf⟩
  have := hat xs[i] (l_r hil)
  rw [dT]
  exact ⟨xs[i], l_v hil, of_dcd_true this⟩
end
theorem ORight_ok {h0 : Heap} (C : Cfg) (r : C.rd h0) (w : C.wf) (l1 : C.os.length < 1000000) (l2 : C.ss.length < 1000000) (l3 : C.ps.length < 1000000) (l4 : ∀ o ∈ C.os, o.ls.length < 1000000) :
  CallsH Tryz.prog 41 [.agg C.enc.toArray] h0 fun v h' => v = .bool (dcd (okCfg C)) ∧ Fr h0 h' [] := by
 have S := St.nil h0
 have r' : ∀ {h' : Heap} {l : List HP}, St h0 h' l → C.rd h' := fun S => r.fr S.fr
 refine EN i41.eq_1 fun K hK => Wa ?_
 (revert S; (try clear F); refine AL fun g h S F => ?_)
 refine Wc F @Cfg.enc.eq_1 ?_
 refine cI (Right_ok (r' S).ps rfl l3) ?_
 rintro _ h ⟨rfl, hf⟩
 have S := S.frame hf
 by_cases d1 : RightT C.ps
 case neg =>
  rw [dF d1]
  refine Wa ?_
  exact hK _ _ ⟨by rw [dF (fun h => d1 h.1)], S.fr⟩
 rw [dT d1]
 ((try clear F); have F := S.fx)
 by_cases d2 : 20 < (C.os.length : Int)
 ·refine Wd F @Cfg.enc.eq_1 d2 ?_
  exact hK _ _ ⟨by rw [dF (fun h => by have := h.2.1; omega)], S.fr⟩
 by_cases d3 : 20 < (C.ss.length : Int)
 ·refine We F @Cfg.enc.eq_1 d2 d3 ?_
  exact hK _ _ ⟨by rw [dF (fun h => by have := h.2.2.1; omega)], S.fr⟩
 refine We F @Cfg.enc.eq_1 d2 d3 ?_
 refine lI (fun ρ h' => ρ 1 = .pointer (some ⟨g, 0, none⟩) ∧ ρ 27 = .slice C.A1 C.os.length C.c1 ∧ ρ 28 = .int .i64 C.os.length ∧ ∃ i : Nat, ρ 29 = .int .i64 i ∧ i ≤ C.os.length ∧ (∀ o ∈ C.os.take i, okOrder C.ps.length o) ∧ ρ 3 = .int .i64 (ordSum (C.os.take i)) ∧
  St h0 h' [cellA g C.enc 26]) (fun ρ _ => C.os.length - (iv (ρ 29)).toNat) ?_ ?_
 ·refine Wa ?_
  exact ⟨0, rfl, by omega, by simp, rfl, S⟩
 clear S F
 rintro ρ h J hJ ⟨e1, e27, e28, i, e29, hi, hok, e3, S⟩
 refine Wc e28 e29 ?_
 refine cD (fun hlt => ?_) (fun hlt => ?_)
 ·have hil : i < C.os.length := by omega
  obtain ⟨b, off, hA, hr1⟩ := (r' S).os.at hil
  have hmem := l_v hil
  have hlb := ord_bound hok
  have hlen : (C.os.take i).length ≤ 20 := by rw [l_ad]; omega
  have hs1 := ordSum_snoc hil
  have hll := l4 _ hmem
  have hrl := fun {h'} {l'} (S : St h0 h' l') => (r' S).ls _ hmem
  have hbad : ¬ okOrder C.ps.length C.os[i] → ¬ okCfg C := fun hn h => hn (h.2.2.2.1 _ hmem)
  have htk : okOrder C.ps.length C.os[i] → ∀ o ∈ C.os.take (i + 1), okOrder C.ps.length o := fun hx o ho => by
   rw [l_t hil] at ho
   rcases List.mem_append.1 ho with ho | ho
   ·exact hok o ho
   ·rw [l_aa] at ho; rw [ho]; exact hx
  generalize C.os[i] = x at *
  refine We e27 e29 hA hr1 ?_
  (revert S; (try clear F); refine AL fun q h S F => ?_)
  refine Wc F @Odr.enc.eq_1 ?_
  (revert S; (try clear F); refine ST fun h S F => ?_)
  refine Wd F e1 @Cfg.enc.eq_1 ?_
  refine cI (rightOrder_ok x C.ps.length (hrl S) (by omega)) ?_
  rintro _ h ⟨⟨n, rfl, hn⟩, hf⟩
  have S := S.frame hf
  by_cases c1 : okOrder C.ps.length x
  case neg =>
   rw [dF c1]
   refine Wa ?_
   exact hK _ _ ⟨by rw [dF (hbad c1)], S.fr⟩
  rw [dT c1, hn c1]
  have hxb := all_bound c1.2.1
  have w1 : IntKind.i64.wrap (ordSum (C.os.take i) + cntOf x.ls) = ordSum (C.os.take i) + cntOf x.ls := by
   have := c1.1.2.1
   exact wrap_i64 (by omega) (by omega)
  refine Wd e3 w1 e29 ?_
  refine hJ _ _ ?_ ?_
  ·refine We e1 e27 e28 hA ?_
   exact ⟨i + 1, rfl, by omega, htk c1, by rw [hs1], S.tl⟩
  ·refine Wb e29 ?_
   omega
 obtain rfl : i = C.os.length := by omega
 rw [l_aj] at hok e3
 clear hJ
 have hob := ord_bound hok
 ((try clear F); have F := S.fx)
 refine Wd e1 F @Cfg.enc.eq_1 ?_
 refine lI (fun ρ h' => ρ 1 = .pointer (some ⟨g, 0, none⟩) ∧ ρ 48 = .slice C.A2 C.ss.length C.c2 ∧ ρ 49 = .int .i64 C.ss.length ∧ ∃ i : Nat, ρ 50 = .int .i64 i ∧ i ≤ C.ss.length ∧ okSups (C.ss.take i) ∧ ρ 3 = .int .i64 (ordSum C.os + supSum (C.ss.take i)) ∧
  St h0 h' [cellA g C.enc 26]) (fun ρ _ => C.ss.length - (iv (ρ 50)).toNat) ?_ ?_
 ·refine Wc e1 e3 ?_
  exact ⟨0, rfl, by omega, ⟨by simp, by simp⟩, by simp [supSum], S⟩
 clear S F e1 e27 e28 e29 e3
 rintro ρ h J hJ ⟨e1, e48, e49, i, e50, hi, hsu, e3, S⟩
 refine Wc e49 e50 ?_
 refine cD (fun hlt => ?_) (fun hlt => ?_)
 ·have hil : i < C.ss.length := by omega
  obtain ⟨b, off, hA, hr1⟩ := (r' S).ss.at hil
  have hsb := sup_bound hsu.1
  have hlen : (C.ss.take i).length ≤ 20 := by rw [l_ad]; omega
  have hs1 := supSum_snoc hil
  have hno := fun h : okCfg C => sups_no hil h.2.2.2.2.1
  have hsn := sups_snoc hil hsu
  have hc2 := w.l2
  have hm2 := w.m2
  generalize C.ss[i] = x at *
  refine We e48 e50 hA hr1 ?_
  (revert S; (try clear F); refine AL fun q h S F => ?_)
  refine Wc F @Sup.enc.eq_1 ?_
  (revert S; (try clear F); refine ST fun h S F => ?_)
  refine Wb F ?_
  refine cI (some_ok _ _ _ _) ?_
  rintro _ _ ⟨rfl, rfl⟩
  by_cases c1 : okSome x.sku x.price x.count
  case neg =>
   rw [dF c1]
   refine Wa ?_
   exact hK _ _ ⟨by rw [dF (fun h => c1 (hno h).1)], S.fr⟩
  rw [dT c1]
  refine Wd e1 F @Cfg.enc.eq_1 ?_
  refine cI (ContainsS_ok (s := x) S (arrTake (r' S).ss i) (by rw [l_ad]; omega) (by rw [l_ad]; omega)) ?_
  rintro _ h ⟨rfl, hf⟩
  have S := S.frame hf
  ((try clear F); have F := S.fx)
  by_cases c2 : ∃ y ∈ C.ss.take i, y.sku = x.sku
  ·rw [dT c2]
   refine Wa ?_
   exact hK _ _ ⟨by rw [dF (fun h => (hno h).2 c2)], S.fr⟩
  rw [dF c2]
  have w1 : IntKind.i64.wrap (ordSum C.os + supSum (C.ss.take i) + x.count) = ordSum C.os + supSum (C.ss.take i) + x.count := by
   have := c1.2.2
   exact wrap_i64 (by omega) (by omega)
  refine Wf e3 F w1 e50 @Sup.enc.eq_1 ?_
  refine hJ _ _ ?_ ?_
  ·refine We e1 e48 e49 hA ?_
   exact ⟨i + 1, rfl, by omega, hsn c1 c2, by rw [hs1, Int.add_assoc], S.tl⟩
  ·refine Wb e50 ?_
   omega
 obtain rfl : i = C.ss.length := by omega
 rw [l_aj] at hsu e3
 refine Wb e3 ?_
 exact hK _ _ ⟨congrArg Value.bool (congrArg dcd (propext ⟨fun h => ⟨d1, by omega, by omega, hok, hsu, h⟩, fun h => h.2.2.2.2.2⟩)), S.fr⟩
end
section
set_option maxHeartbeats 4000000
theorem wrapU {n : Nat} (h : n < 18446744073709551616) : IntKind.u64.wrap (n : Int) = n := by
 have : IntKind.u64.wrap (n : Int) = (n : Int) % 18446744073709551616 := rfl
 rw [this]
 omega
theorem mulE {a b c : Nat} (h : a * b = c) (hc : c < 18446744073709551616) : binV .mul (.int .u64 a) (.int .u64 b) = some (.int .u64 c) := by
 rw [bin_mul, ← Int.natCast_mul, h, wrapU hc]
theorem mulM {a b : Nat} : binV .mul (.int .u64 a) (.int .u64 b) = some (.int .u64 (a * b % 18446744073709551616 : Nat)) := by
 rw [bin_mul, ← Int.natCast_mul]
 rfl
theorem addE {a b c : Nat} (h : a + b = c) (hc : c < 18446744073709551616) : binV .add (.int .u64 a) (.int .u64 b) = some (.int .u64 c) := by
 rw [bin_add, ← Int.natCast_add, h, wrapU hc]
theorem subE {a b c : Nat} (h : a = c + b) (hc : c < 18446744073709551616) : binV .sub (.int .u64 a) (.int .u64 b) = some (.int .u64 c) := by
 rw [bin_sub, show (a : Int) - b = c by omega, wrapU hc]
theorem addM {a b : Nat} : binV .add (.int .u64 a) (.int .u64 b) = some (.int .u64 ((a + b) % 18446744073709551616 : Nat)) := by
 rw [bin_add, ← Int.natCast_add]
 rfl
theorem subM {a b c : Nat} (h : (a + (18446744073709551616 - b)) % 18446744073709551616 = c ∧ b ≤ 18446744073709551616) : binV .sub (.int .u64 a) (.int .u64 b) = some (.int .u64 c) := by
 rw [bin_sub]
 have : IntKind.u64.wrap ((a : Int) - b) = ((a : Int) - b) % 18446744073709551616 := rfl
 rw [this, show ((a : Int) - b) % 18446744073709551616 = (c : Nat) by omega]
theorem quoE {a b c : Nat} (h : a / b = c) (hb : b ≠ 0) (ha : a < 18446744073709551616) : binV .quo (.int .u64 a) (.int .u64 b) = some (.int .u64 c) := by
 have hc : c ≤ a := h ▸ Nat.div_le_self a b
 rw [bin_quo (by omega), Int.tdiv_eq_ediv_of_nonneg (by omega), ← Int.natCast_ediv, h, wrapU (by omega)]
theorem remE {a b c : Nat} (h : a % b = c) (hb : b ≠ 0) : binV .rem (.int .u64 a) (.int .u64 b) = some (.int .u64 c) := by
 rw [bin_rem (by omega), Int.tmod_eq_emod_of_nonneg (by omega), ← Int.natCast_emod, h]
theorem shrE {a k c : Nat} {k' : IntKind} (hk : k ≤ 64) (h : a / 2 ^ k = c) : binV .shr (.int .u64 a) (.int k' k) = some (.int .u64 c) := by
 rw [bin_shr (by omega), l_ap, show IntKind.u64.bits = 64 from rfl, Nat.min_eq_left hk, Int.fdiv_eq_ediv_of_nonneg _ (Int.le_of_lt (Int.pow_pos (by decide)))]
 rw [← h]
 simp
theorem shlE {a k c : Nat} {k' : IntKind} (hk : k ≤ 64) (h : a * 2 ^ k % 18446744073709551616 = c) : binV .shl (.int .u64 a) (.int k' k) = some (.int .u64 c) := by
 rw [bin_shl (by omega), l_ap, show IntKind.u64.bits = 64 from rfl, Nat.min_eq_left hk, ← h]
 have : (a : Int) * 2 ^ k = ((a * 2 ^ k : Nat) : Int) := by simp
 rw [this]
 rfl
theorem ofIntN {n : Nat} : BitVec.ofInt IntKind.u64.bits (n : Int) = BitVec.ofNat 64 n := BitVec.ofInt_natCast 64 n
theorem andE {a b c : Nat} (ha : a < 18446744073709551616) (hb : b < 18446744073709551616) (h : a &&& b = c) : binV .and (.int .u64 a) (.int .u64 b) = some (.int .u64 c) := by
 have hc : c ≤ a := h ▸ Nat.and_le_left
 rw [bin_and, ofIntN, ofIntN]
 have e : (BitVec.ofNat 64 a &&& BitVec.ofNat 64 b).toNat = c := by
  rw [BitVec.toNat_and, BitVec.toNat_ofNat, BitVec.toNat_ofNat, Nat.mod_eq_of_lt (by simpa using ha), Nat.mod_eq_of_lt (by simpa using hb), h]
 exact (congrArg (fun n : Nat => some (Value.int IntKind.u64 (IntKind.u64.wrap (n : Int)))) e).trans (by rw [wrapU (by omega)])
theorem orE {a b c : Nat} (ha : a < 18446744073709551616) (hb : b < 18446744073709551616) (h : a ||| b = c) : binV .or (.int .u64 a) (.int .u64 b) = some (.int .u64 c) := by
 have hc : c < 18446744073709551616 := h ▸ Nat.or_lt_two_pow (n := 64) ha hb
 rw [bin_or, ofIntN, ofIntN]
 have e : (BitVec.ofNat 64 a ||| BitVec.ofNat 64 b).toNat = c := by
  rw [BitVec.toNat_or, BitVec.toNat_ofNat, BitVec.toNat_ofNat, Nat.mod_eq_of_lt (by simpa using ha), Nat.mod_eq_of_lt (by simpa using hb), h]
 exact (congrArg (fun n : Nat => some (Value.int IntKind.u64 (IntKind.u64.wrap (n : Int)))) e).trans (by rw [wrapU (by omega)])
theorem and32L (a : Nat) (ha : a < 18446744073709551616) : binV .and (.int .u64 a) (.int .u64 4294967295) = some (.int .u64 ((a % 4294967296 : Nat) : Int)) :=
 andE (b := 4294967295) ha (by decide) (Nat.and_two_pow_sub_one_eq_mod a 32)
theorem shr32L (a : Nat) : binV .shr (.int .u64 a) (.int .u64 32) = some (.int .u64 ((a / 4294967296 : Nat) : Int)) := shrE (k := 32) (by omega) rfl
theorem mul_lt {a b c d : Nat} (h1 : a ≤ c) (h2 : b ≤ d) : a * b ≤ c * d := Nat.mul_le_mul h1 h2
theorem mul_split (x y : Nat) : x * y = (x / 4294967296) * (y / 4294967296) * 18446744073709551616 + ((x / 4294967296) * (y % 4294967296) + (x % 4294967296) * (y / 4294967296)) * 4294967296 + (x % 4294967296) * (y % 4294967296) := by
 have hx : x = (x / 4294967296) * 4294967296 + x % 4294967296 := by omega
 have hy : y = (y / 4294967296) * 4294967296 + y % 4294967296 := by omega
 conv => lhs; rw [hx, hy]
 generalize x / 4294967296 = a
 generalize x % 4294967296 = b
 generalize y / 4294967296 = c
 generalize y % 4294967296 = d
 rw [Nat.add_mul, Nat.mul_add, Nat.mul_add, Nat.mul_mul_mul_comm, Nat.mul_right_comm a 4294967296 d, ← Nat.mul_assoc b c]
 omega
theorem Mul64_ok (x y : Nat) (hx : x < 18446744073709551616) (hy : y < 18446744073709551616) (h : Heap) : CallsH Tryz.prog 110 [.int .u64 x, .int .u64 y] h fun v h' => v = .tuple #[.int .u64 (x * y / 18446744073709551616 : Nat), .int .u64 (x * y % 18446744073709551616 : Nat)] ∧ h' = h := by
 have hs := mul_split x y
 have a1 := and32L x hx
 have a2 := and32L y hy
 have s1 := shr32L x
 have s2 := shr32L y
 have b1 : x / 4294967296 ≤ 4294967295 := by omega
 have b2 : y / 4294967296 ≤ 4294967295 := by omega
 have b3 : x % 4294967296 ≤ 4294967295 := by omega
 have b4 : y % 4294967296 ≤ 4294967295 := by omega
 have hlo := mulM (a := x) (b := y)
 generalize x / 4294967296 = x1 at *
 generalize y / 4294967296 = y1 at *
 generalize x % 4294967296 = x0 at *
 generalize y % 4294967296 = y0 at *
 have c11 := mul_lt b1 b2
 have c10 := mul_lt b1 b4
 have c01 := mul_lt b3 b2
 have c00 := mul_lt b3 b4
 generalize h00 : x0 * y0 = p00 at *
 generalize h10 : x1 * y0 = p10 at *
 generalize h01 : x0 * y1 = p01 at *
 generalize h11 : x1 * y1 = p11 at *
 have m00 := mulE h00 (by omega)
 have m10 := mulE h10 (by omega)
 have m01 := mulE h01 (by omega)
 have m11 := mulE h11 (by omega)
 have s3 := shr32L p00
 have d1 := addE (a := p10) (b := p00 / 4294967296) rfl (by omega)
 have a3 := and32L (p10 + p00 / 4294967296) (by omega)
 have s4 := shr32L (p10 + p00 / 4294967296)
 have d2 := addE (a := (p10 + p00 / 4294967296) % 4294967296) (b := p01) rfl (by omega)
 have d3 := addE (a := p11) (b := (p10 + p00 / 4294967296) / 4294967296) rfl (by omega)
 have s5 := shr32L ((p10 + p00 / 4294967296) % 4294967296 + p01)
 have d4 := addE (a := p11 + (p10 + p00 / 4294967296) / 4294967296) (b := ((p10 + p00 / 4294967296) % 4294967296 + p01) / 4294967296) rfl (by omega)
 have hhi : p11 + (p10 + p00 / 4294967296) / 4294967296 + ((p10 + p00 / 4294967296) % 4294967296 + p01) / 4294967296 = x * y / 18446744073709551616 := by omega
 rw [hhi] at d4
 refine EN i110.eq_1 fun K hK => ?_
 refine Wi @i110.eq_1 a1 a2 s1 s2 m00 m10 (Pf m01 m11 s3 d1 (Pf a3 s4 d2 d3 (Pd s5 d4 hlo))) ?_
 exact hK _ _ ⟨rfl, rfl⟩
def bitLen (n : Nat) : Nat := if n = 0 then 0 else n.log2 + 1
theorem bitLen_shr (n k : Nat) (h : 2 ^ k ≤ n) : bitLen n = k + bitLen (n / 2 ^ k) := by
 have hp : 0 < 2 ^ k := Nat.pow_pos (by decide)
 have h1 : n / 2 ^ k ≠ 0 := by
  have := Nat.div_pos h hp
  omega
 have h0 : n ≠ 0 := by omega
 unfold bitLen
 rw [if_neg h0, if_neg h1]
 have : n.log2 = k + (n / 2 ^ k).log2 := by
  rw [Nat.log2_eq_iff h0]
  have h2 := (Nat.log2_eq_iff h1).1 rfl
  constructor
  ·rw [Nat.pow_add, Nat.mul_comm]
   exact (Nat.le_div_iff_mul_le hp).1 h2.1
  ·rw [show k + (n / 2 ^ k).log2 + 1 = ((n / 2 ^ k).log2 + 1) + k by omega, Nat.pow_add]
   exact (Nat.div_lt_iff_lt_mul hp).1 h2.2
 omega
theorem bitLen_spec {n : Nat} (h : n ≠ 0) : 2 ^ (bitLen n - 1) ≤ n ∧ n < 2 ^ bitLen n ∧ 0 < bitLen n := by
 unfold bitLen
 rw [if_neg h]
 have := (Nat.log2_eq_iff h).1 rfl
 exact ⟨by simpa using this.1, this.2, by omega⟩
def tabOk (T : Value) : Bool := (List.range 256).all fun n => match idxTV T (.int .u8 n) with
 | some (.int .u8 k) => k == (bitLen n : Int)
 | _ => false
theorem tab_at {T : Value} (h : tabOk T = true) {n : Nat} (hn : n < 256) : idxTV T (.int .u8 n) = some (.int .u8 (bitLen n : Nat)) := by
 have := List.all_eq_true.1 h n (List.mem_range.2 hn)
 split at this
 ·rename_i k e
  rw [e, eq_of_beq this]
 ·cases this
theorem bind_tab {T : Value} {n : Nat} {K : Value → Prop} {t : Tag K} (h : tabOk T = true) (hn : n < 256) (hk : K (.int .u8 (bitLen n : Nat))) : bindT (idxTV T (.int .u8 n)) K t := by
 rw [tab_at h hn]
 exact hk
theorem wrapB {n : Nat} (h : n < 256) : IntKind.u8.wrap (n : Int) = n := by
 have : IntKind.u8.wrap (n : Int) = (n : Int) % 256 := rfl
 rw [this]
 omega
theorem bitLen_8 {n : Nat} (h : n < 256) : bitLen n ≤ 8 := by
 by_cases h0 : n = 0
 ·subst h0; decide
 ·have := (bitLen_spec h0).1
  have h2 := (bitLen_spec h0).2.2
  apply Nat.le_of_not_lt
  intro h3
  have : 2 ^ 8 ≤ 2 ^ (bitLen n - 1) := Nat.pow_le_pow_right (by decide) (by omega)
  omega
theorem Len64_fin {b m a : Nat} (h : a = m + b) (hb : b ≤ 8) (hm : m ≤ 56) : IntKind.i64.wrap ((m : Int) + IntKind.i64.wrap (b : Int)) = a := by
 rw [wrap_i64 (x := (b : Int)) (by omega) (by omega), wrap_i64 (by omega) (by omega)]
 omega
set_option maxRecDepth 1000000 in
theorem Len64_ok (x : Nat) (hx : x < 18446744073709551616) (h : Heap) : CallsH Tryz.prog 167 [.int .u64 x] h fun v h' => v = .int .i64 (bitLen x : Nat) ∧ h' = h := by
 have s32 := fun n => shr32L n
 have s16 : ∀ n : Nat, binV .shr (.int .u64 n) (.int .u64 16) = some (.int .u64 ((n / 65536 : Nat) : Int)) := fun n => shrE (k := 16) (by omega) rfl
 have s8 : ∀ n : Nat, binV .shr (.int .u64 n) (.int .u64 8) = some (.int .u64 ((n / 256 : Nat) : Int)) := fun n => shrE (k := 8) (by omega) rfl
 have w16 : IntKind.i64.wrap ((0 : Int) + 16) = 16 := by decide
 have w8 : IntKind.i64.wrap ((0 : Int) + 8) = 8 := by decide
 have w48 : IntKind.i64.wrap ((32 : Int) + 16) = 48 := by decide
 have w40 : IntKind.i64.wrap ((32 : Int) + 8) = 40 := by decide
 have w56 : IntKind.i64.wrap ((48 : Int) + 8) = 56 := by decide
 have w24 : IntKind.i64.wrap ((16 : Int) + 8) = 24 := by decide
 refine EN i167.eq_1 fun K hK => ?_
 by_cases c0 : (4294967296 : Int) ≤ (x : Nat)
 ·refine Wi @i167.eq_1 c0 s32 s16 s8 w16 w8 (Pe w48 w40 w56 w24) ?_
  by_cases c1 : (65536 : Int) ≤ ((x) / 4294967296 : Nat)
  ·refine Wi c1 s32 s16 s8 w16 w8 w48 (Pd w40 w56 w24) ?_
   by_cases c2 : (256 : Int) ≤ (((x) / 4294967296) / 65536 : Nat)
   ·refine Wi c2 s32 s16 s8 w16 w8 w48 (Pd w40 w56 w24) ?_
    have hw := wrapB (n := (((x) / 4294967296) / 65536) / 256) (by omega)
    refine Wb hw ?_
    refine bind_tab (by kernel_rfl) (by omega) ?_
    refine Wa ?_
    refine hK _ _ ⟨congrArg (Value.int .i64) (Len64_fin (m := 56) ?_ (bitLen_8 (by omega)) (by omega)), rfl⟩
    have q32 := bitLen_shr (x) 32 (by omega)
    rw [show (2 : Nat) ^ 32 = 4294967296 from rfl] at q32
    have q16 := bitLen_shr ((x) / 4294967296) 16 (by omega)
    rw [show (2 : Nat) ^ 16 = 65536 from rfl] at q16
    have q8 := bitLen_shr (((x) / 4294967296) / 65536) 8 (by omega)
    rw [show (2 : Nat) ^ 8 = 256 from rfl] at q8
    omega
   ·refine Wi c2 s32 s16 s8 w16 w8 w48 (Pd w40 w56 w24) ?_
    have hw := wrapB (n := ((x) / 4294967296) / 65536) (by omega)
    refine Wb hw ?_
    refine bind_tab (by kernel_rfl) (by omega) ?_
    refine Wa ?_
    refine hK _ _ ⟨congrArg (Value.int .i64) (Len64_fin (m := 48) ?_ (bitLen_8 (by omega)) (by omega)), rfl⟩
    have q32 := bitLen_shr (x) 32 (by omega)
    rw [show (2 : Nat) ^ 32 = 4294967296 from rfl] at q32
    have q16 := bitLen_shr ((x) / 4294967296) 16 (by omega)
    rw [show (2 : Nat) ^ 16 = 65536 from rfl] at q16
    omega
  ·refine Wi c1 s32 s16 s8 w16 w8 w48 (Pd w40 w56 w24) ?_
   by_cases c2 : (256 : Int) ≤ ((x) / 4294967296 : Nat)
   ·refine Wi c2 s32 s16 s8 w16 w8 w48 (Pd w40 w56 w24) ?_
    have hw := wrapB (n := ((x) / 4294967296) / 256) (by omega)
    refine Wb hw ?_
    refine bind_tab (by kernel_rfl) (by omega) ?_
    refine Wa ?_
    refine hK _ _ ⟨congrArg (Value.int .i64) (Len64_fin (m := 40) ?_ (bitLen_8 (by omega)) (by omega)), rfl⟩
    have q32 := bitLen_shr (x) 32 (by omega)
    rw [show (2 : Nat) ^ 32 = 4294967296 from rfl] at q32
    have q8 := bitLen_shr ((x) / 4294967296) 8 (by omega)
    rw [show (2 : Nat) ^ 8 = 256 from rfl] at q8
    omega
   ·refine Wi c2 s32 s16 s8 w16 w8 w48 (Pd w40 w56 w24) ?_
    have hw := wrapB (n := (x) / 4294967296) (by omega)
    refine Wb hw ?_
    refine bind_tab (by kernel_rfl) (by omega) ?_
    refine Wa ?_
    refine hK _ _ ⟨congrArg (Value.int .i64) (Len64_fin (m := 32) ?_ (bitLen_8 (by omega)) (by omega)), rfl⟩
    have q32 := bitLen_shr (x) 32 (by omega)
    rw [show (2 : Nat) ^ 32 = 4294967296 from rfl] at q32
    omega
 ·refine Wi @i167.eq_1 c0 s32 s16 s8 w16 w8 (Pe w48 w40 w56 w24) ?_
  by_cases c1 : (65536 : Int) ≤ (x : Nat)
  ·refine Wi c1 s32 s16 s8 w16 w8 w48 (Pd w40 w56 w24) ?_
   by_cases c2 : (256 : Int) ≤ ((x) / 65536 : Nat)
   ·refine Wi c2 s32 s16 s8 w16 w8 w48 (Pd w40 w56 w24) ?_
    have hw := wrapB (n := ((x) / 65536) / 256) (by omega)
    refine Wb hw ?_
    refine bind_tab (by kernel_rfl) (by omega) ?_
    refine Wa ?_
    refine hK _ _ ⟨congrArg (Value.int .i64) (Len64_fin (m := 24) ?_ (bitLen_8 (by omega)) (by omega)), rfl⟩
    have q16 := bitLen_shr (x) 16 (by omega)
    rw [show (2 : Nat) ^ 16 = 65536 from rfl] at q16
    have q8 := bitLen_shr ((x) / 65536) 8 (by omega)
    rw [show (2 : Nat) ^ 8 = 256 from rfl] at q8
    omega
   ·refine Wi c2 s32 s16 s8 w16 w8 w48 (Pd w40 w56 w24) ?_
    have hw := wrapB (n := (x) / 65536) (by omega)
    refine Wb hw ?_
    refine bind_tab (by kernel_rfl) (by omega) ?_
    refine Wa ?_
    refine hK _ _ ⟨congrArg (Value.int .i64) (Len64_fin (m := 16) ?_ (bitLen_8 (by omega)) (by omega)), rfl⟩
    have q16 := bitLen_shr (x) 16 (by omega)
    rw [show (2 : Nat) ^ 16 = 65536 from rfl] at q16
    omega
  ·refine Wi c1 s32 s16 s8 w16 w8 w48 (Pd w40 w56 w24) ?_
   by_cases c2 : (256 : Int) ≤ (x : Nat)
   ·refine Wi c2 s32 s16 s8 w16 w8 w48 (Pd w40 w56 w24) ?_
    have hw := wrapB (n := (x) / 256) (by omega)
    refine Wb hw ?_
    refine bind_tab (by kernel_rfl) (by omega) ?_
    refine Wa ?_
    refine hK _ _ ⟨congrArg (Value.int .i64) (Len64_fin (m := 8) ?_ (bitLen_8 (by omega)) (by omega)), rfl⟩
    have q8 := bitLen_shr (x) 8 (by omega)
    rw [show (2 : Nat) ^ 8 = 256 from rfl] at q8
    omega
   ·refine Wi c2 s32 s16 s8 w16 w8 w48 (Pd w40 w56 w24) ?_
    have hw := wrapB (n := x) (by omega)
    refine Wb hw ?_
    refine bind_tab (by kernel_rfl) (by omega) ?_
    refine Wa ?_
    refine hK _ _ ⟨congrArg (Value.int .i64) (Len64_fin (m := 0) ?_ (bitLen_8 (by omega)) (by omega)), rfl⟩
    omega
end
section
set_option maxHeartbeats 8000000
set_option maxRecDepth 100000
section
variable {y1 y0 u u1 q r : Nat}
theorem dig_top (hy : 0 < y1) (hu1 : u1 < 4294967296) : (u * 4294967296 + u1) / (y1 * 4294967296 + y0) ≤ u / y1 := by
 have h1 : (u * 4294967296 + u1) / (y1 * 4294967296 + y0) ≤ (u * 4294967296 + u1) / (4294967296 * y1) := Nat.div_le_div_left (by omega) (by omega)
 rw [← Nat.div_div_eq_div_mul, show (u * 4294967296 + u1) / 4294967296 = u by omega] at h1
 exact h1
theorem dig_low (hy : 0 < y1) (hq : q * y1 + r = u) (h : q * y0 ≤ r * 4294967296 + u1) : q ≤ (u * 4294967296 + u1) / (y1 * 4294967296 + y0) := by
 rw [Nat.le_div_iff_mul_le (by omega), Nat.mul_add, ← Nat.mul_assoc, ← hq, Nat.add_mul]
 omega
theorem dig_step (hy : 0 < y1) (hq : q * y1 + r = u) (h : r * 4294967296 + u1 < q * y0) : (u * 4294967296 + u1) / (y1 * 4294967296 + y0) < q := by
 rw [Nat.div_lt_iff_lt_mul (by omega)]
 have e1 : q * (y1 * 4294967296 + y0) = q * y1 * 4294967296 + q * y0 := by rw [Nat.mul_add, ← Nat.mul_assoc]
 rw [e1, ← hq]
 generalize q * y1 = a at *
 generalize q * y0 = b at *
 rw [Nat.add_mul, Nat.add_assoc]
 exact Nat.add_lt_add_left h _
theorem dig_lt (hy : 0 < y1) (hu1 : u1 < 4294967296) (hu : u < y1 * 4294967296 + y0) : (u * 4294967296 + u1) / (y1 * 4294967296 + y0) < 4294967296 := by
 rw [Nat.div_lt_iff_lt_mul (by omega)]
 omega
theorem dig_q0 (hy : 2147483648 ≤ y1) (hy0 : y0 < 4294967296) (hu : u < y1 * 4294967296 + y0) : u / y1 ≤ 4294967297 := by
 apply Nat.le_of_lt_succ
 rw [Nat.div_lt_iff_lt_mul (by omega)]
 omega
end
theorem loop_join {P : Program} {c : MCode} {id : Nat} {T : Env → Heap → Prop} {Q : MExit → Env → Heap → Prop} {ρ : Env} {h : Heap} {t1 : Tag c} {t2 : Tag (qblk id (qseq T Q))} {t3 : Tag ρ} {t4 : Tag h} (I : Env → Heap → Prop)
  (hw : ∀ J : Env → Heap → Prop, (∀ ρ h, I ρ h → J ρ h) → loopT P c (qblk id (qseq J Q)) ρ h ⟨⟩ ⟨⟩ ⟨⟩ ⟨⟩) (hT : ∀ ρ h, I ρ h → T ρ h) : loopT P c (qblk id (qseq T Q)) ρ h t1 t2 t3 t4 := hw T hT
theorem LeadingZeros64_ok (x : Nat) (hx : x < 18446744073709551616) (h : Heap) : CallsH Tryz.prog 151 [.int .u64 x] h fun v h' => v = .int .i64 (64 - (bitLen x : Int)) ∧ h' = h := by
 refine EN i151.eq_1 fun K hK => Wa ?_
 refine cI (Len64_ok x hx h) ?_
 rintro _ _ ⟨rfl, rfl⟩
 have hb : bitLen x ≤ 64 := by
  by_cases h0 : x = 0
  ·subst h0; decide
  ·have := (bitLen_spec h0).1
   have h2 := (bitLen_spec h0).2.2
   apply Nat.le_of_not_lt
   intro h3
   have : 2 ^ 64 ≤ 2 ^ (bitLen x - 1) := Nat.pow_le_pow_right (by decide) (by omega)
   omega
 have hw : IntKind.i64.wrap (64 - (bitLen x : Int)) = 64 - (bitLen x : Int) := wrap_i64 (by omega) (by omega)
 refine Wb hw ?_
 exact hK _ _ ⟨rfl, rfl⟩
theorem norm_spec {y : Nat} (h0 : 0 < y) (hy : y < 18446744073709551616) : ∃ s : Nat, 64 - (bitLen y : Int) = s ∧ s < 64 ∧ y * 2 ^ s < 18446744073709551616 ∧ 9223372036854775808 ≤ y * 2 ^ s := by
 obtain ⟨h1, h2, h3⟩ := bitLen_spec (n := y) (by omega)
 have hb : bitLen y ≤ 64 := by
  apply Nat.le_of_not_lt
  intro h4
  have : 2 ^ 64 ≤ 2 ^ (bitLen y - 1) := Nat.pow_le_pow_right (by decide) (by omega)
  omega
 refine ⟨64 - bitLen y, by omega, by omega, ?_, ?_⟩
 ·have : y * 2 ^ (64 - bitLen y) < 2 ^ bitLen y * 2 ^ (64 - bitLen y) := Nat.mul_lt_mul_of_pos_right h2 (Nat.pow_pos (by decide))
  rw [← Nat.pow_add, show bitLen y + (64 - bitLen y) = 64 by omega] at this
  exact this
 ·have : 2 ^ (bitLen y - 1) * 2 ^ (64 - bitLen y) ≤ y * 2 ^ (64 - bitLen y) := Nat.mul_le_mul_right _ h1
  rw [← Nat.pow_add, show bitLen y - 1 + (64 - bitLen y) = 63 by omega] at this
  exact this
theorem whole_spec {hi lo s : Nat} (hs : s < 64) (hlo : lo < 18446744073709551616) : (hi * 2 ^ s + lo / 2 ^ (64 - s)) * 18446744073709551616 + lo * 2 ^ s % 18446744073709551616 = (hi * 18446744073709551616 + lo) * 2 ^ s := by
 have e : 2 ^ (64 - s) * 2 ^ s = 18446744073709551616 := by rw [← Nat.pow_add, show 64 - s + s = 64 by omega]
 have h1 : lo * 2 ^ s / 18446744073709551616 = lo / 2 ^ (64 - s) := by rw [← e, Nat.mul_div_mul_right _ _ (Nat.pow_pos (by decide))]
 have h2 := Nat.div_add_mod (lo * 2 ^ s) 18446744073709551616
 rw [h1] at h2
 rw [Nat.add_mul, Nat.add_mul, Nat.mul_right_comm hi]
 omega
theorem two_digits {Y u32 u1 u0 : Nat} (hY : 0 < Y) (h0 : u0 < 4294967296) :
  let N1 := u32 * 4294967296 + u1
  let N0 := (N1 % Y) * 4294967296 + u0
  (u32 * 18446744073709551616 + (u1 * 4294967296 + u0)) / Y = (N1 / Y) * 4294967296 + N0 / Y ∧ (u32 * 18446744073709551616 + (u1 * 4294967296 + u0)) % Y = N0 % Y := by
 intro N1 N0
 have e1 := Nat.div_add_mod N1 Y
 have e2 := Nat.div_add_mod N0 Y
 have hlt := Nat.mod_lt N0 hY
 have hW : u32 * 18446744073709551616 + (u1 * 4294967296 + u0) = ((N1 / Y) * 4294967296 + N0 / Y) * Y + N0 % Y := by
  have e3 : N1 * 4294967296 + u0 = u32 * 18446744073709551616 + (u1 * 4294967296 + u0) := by show (u32 * 4294967296 + u1) * 4294967296 + u0 = _; omega
  have e4 : N0 = N1 % Y * 4294967296 + u0 := rfl
  rw [Nat.add_mul, Nat.mul_right_comm, Nat.mul_comm (N1 / Y) Y, Nat.mul_comm (N0 / Y) Y, Nat.add_assoc, e2, e4, ← e3, ← Nat.add_assoc, ← Nat.add_mul, e1]
 rw [hW]
 constructor
 ·rw [Nat.mul_comm, Nat.mul_add_div hY, Nat.div_eq_of_lt hlt, Nat.add_zero]
 ·rw [Nat.mul_comm, Nat.mul_add_mod, Nat.mod_eq_of_lt hlt]
theorem digits_ex {Y u32 u1 u0 : Nat} (hY : 0 < Y) (h0 : u0 < 4294967296) : ∃ q1 u21 q0 rm, q1 = (u32 * 4294967296 + u1) / Y ∧ q1 * Y + u21 = u32 * 4294967296 + u1 ∧ u21 < Y ∧ q0 = (u21 * 4294967296 + u0) / Y ∧ q0 * Y + rm = u21 * 4294967296 + u0 ∧ rm < Y ∧
  (u32 * 18446744073709551616 + (u1 * 4294967296 + u0)) / Y = q1 * 4294967296 + q0 ∧ (u32 * 18446744073709551616 + (u1 * 4294967296 + u0)) % Y = rm := by
 have h := two_digits (u32 := u32) (u1 := u1) hY h0
 refine ⟨_, _, _, _, rfl, ?_, Nat.mod_lt _ hY, rfl, ?_, Nat.mod_lt _ hY, h.1, h.2⟩
 ·rw [Nat.mul_comm]; exact Nat.div_add_mod _ _
 ·rw [Nat.mul_comm]; exact Nat.div_add_mod _ _
theorem lt_m1 {q : Nat} (h : q < 4294967296) : q * 4294967296 < 18446744073709551616 := by omega
theorem lt_m2 {q r : Nat} (h : q < 4294967296) (k : r < 4294967296) : q * 4294967296 + r < 18446744073709551616 := by omega
end
end Go.Proofs.YtcgbhcgfdcfmaaaGreat.MX
