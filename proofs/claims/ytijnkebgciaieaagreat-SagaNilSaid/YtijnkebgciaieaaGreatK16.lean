import Derived.Test.YtijnkebgciaieaaGreatK15
namespace Go.Proofs.YtijnkebgciaieaaGreat.MX
open Go Go.Proofs
set_option linter.unusedSimpArgs false
set_option linter.unusedVariables false
section
set_option maxHeartbeats 8000000
theorem rightOrder_ok {h0 : Heap} (o : Odr) (k : Int) (ha : Arr Lin.enc 4 h0 o.A o.ls) (hl : o.ls.length < 1000000000) :
  CallsH Tryz.prog 88 [.agg o.enc.toArray, .int .i64 k] h0 fun v h' => (∃ n : Int, v = .tuple #[.int .i64 n, .bool (dcd (okOrder k o))] ∧ (okOrder k o → n = cntOf o.ls)) ∧ Fr h0 h' [] := by
 have S := St.nil h0
 by_cases d1 : o.day < 0
 ·(refine eK c_order_rightOrder (l_a rfl) fun K hK => ?_; (try simp (disch := first|omega|assumption|exact l_a rfl) only [go_sem, ↓wBk, simprocAttr, ir_order_rightOrder]))
  (refine tA S ?_; clear S; intro g h S; (try simp only [sC, sN, l_h, l_i, Nat.zero_add, Nat.reduceAdd, l_j, l_k] at S); ((try clear F); have F := S.all; (try simp only [aC, aN, yC, and_true] at F)))
  (try simp (disch := first|omega|assumption|exact l_a rfl) only [go_sem, ↓wBk, simprocAttr, F, Odr.enc, d1])
  exact hK _ _ ⟨⟨0, by rw [dF (fun h => by have := h.1.1.1; omega)], fun h => by have := h.1.1.1; omega⟩, S.fr⟩
 by_cases d2 : 100000 < o.day
 ·(refine eK c_order_rightOrder (l_a rfl) fun K hK => ?_; (try simp (disch := first|omega|assumption|exact l_a rfl) only [go_sem, ↓wBk, simprocAttr, ir_order_rightOrder]))
  (refine tA S ?_; clear S; intro g h S; (try simp only [sC, sN, l_h, l_i, Nat.zero_add, Nat.reduceAdd, l_j, l_k] at S); ((try clear F); have F := S.all; (try simp only [aC, aN, yC, and_true] at F)))
  (try simp (disch := first|omega|assumption|exact l_a rfl) only [go_sem, ↓wBk, simprocAttr, F, Odr.enc, d1, d2])
  exact hK _ _ ⟨⟨0, by rw [dF (fun h => by have := h.1.1.2; omega)], fun h => by have := h.1.1.2; omega⟩, S.fr⟩
 by_cases d3 : (o.ls.length : Int) < 1
 ·(refine eK c_order_rightOrder (l_a rfl) fun K hK => ?_; (try simp (disch := first|omega|assumption|exact l_a rfl) only [go_sem, ↓wBk, simprocAttr, ir_order_rightOrder]))
  (refine tA S ?_; clear S; intro g h S; (try simp only [sC, sN, l_h, l_i, Nat.zero_add, Nat.reduceAdd, l_j, l_k] at S); ((try clear F); have F := S.all; (try simp only [aC, aN, yC, and_true] at F)))
  (try simp (disch := first|omega|assumption|exact l_a rfl) only [go_sem, ↓wBk, simprocAttr, F, Odr.enc, d1, d2, d3])
  exact hK _ _ ⟨⟨0, by rw [dF (fun h => by have := h.1.2.1.1; omega)], fun h => by have := h.1.2.1.1; omega⟩, S.fr⟩
 by_cases d4 : 8 < (o.ls.length : Int)
 ·(refine eK c_order_rightOrder (l_a rfl) fun K hK => ?_; (try simp (disch := first|omega|assumption|exact l_a rfl) only [go_sem, ↓wBk, simprocAttr, ir_order_rightOrder]))
  (refine tA S ?_; clear S; intro g h S; (try simp only [sC, sN, l_h, l_i, Nat.zero_add, Nat.reduceAdd, l_j, l_k] at S); ((try clear F); have F := S.all; (try simp only [aC, aN, yC, and_true] at F)))
  (try simp (disch := first|omega|assumption|exact l_a rfl) only [go_sem, ↓wBk, simprocAttr, F, Odr.enc, d1, d2, d3, d4])
  exact hK _ _ ⟨⟨0, by rw [dF (fun h => by have := h.1.2.1.2; omega)], fun h => by have := h.1.2.1.2; omega⟩, S.fr⟩
 (refine eK c_order_rightOrder (l_a rfl) fun K hK => ?_; (try simp (disch := first|omega|assumption|exact l_a rfl) only [go_sem, ↓wBk, simprocAttr, ir_order_rightOrder]))
 (refine tA S ?_; clear S; intro g h S; (try simp only [sC, sN, l_h, l_i, Nat.zero_add, Nat.reduceAdd, l_j, l_k] at S); ((try clear F); have F := S.all; (try simp only [aC, aN, yC, and_true] at F)))
 (try simp (disch := first|omega|assumption|exact l_a rfl) only [go_sem, ↓wBk, simprocAttr, F, Odr.enc, d1, d2, d3, d4])
 refine cI (oprice_ok _ _) ?_
 rintro _ _ ⟨rfl, rfl⟩
 by_cases d5 : okPrice o.disc
 case neg =>
  rw [dF d5]
  (try simp (disch := first|omega|assumption|exact l_a rfl) only [go_sem, ↓wBk, simprocAttr])
  exact hK _ _ ⟨⟨0, by rw [dF (fun h => d5 h.1.2.2.1)], fun h => (d5 h.1.2.2.1).elim⟩, S.fr⟩
 rw [dT d5]
 (try simp (disch := first|omega|assumption|exact l_a rfl) only [go_sem, ↓wBk, simprocAttr, F, Odr.enc])
 refine cI (oprice_ok _ _) ?_
 rintro _ _ ⟨rfl, rfl⟩
 by_cases d6 : okPrice o.tax
 case neg =>
  rw [dF d6]
  (try simp (disch := first|omega|assumption|exact l_a rfl) only [go_sem, ↓wBk, simprocAttr])
  exact hK _ _ ⟨⟨0, by rw [dF (fun h => d6 h.1.2.2.2.1)], fun h => (d6 h.1.2.2.2.1).elim⟩, S.fr⟩
 rw [dT d6]
 (try simp (disch := first|omega|assumption|exact l_a rfl) only [go_sem, ↓wBk, simprocAttr, F, Odr.enc])
 refine cI (oprice_ok _ _) ?_
 rintro _ _ ⟨rfl, rfl⟩
 by_cases d7 : okPrice o.ship
 case neg =>
  rw [dF d7]
  (try simp (disch := first|omega|assumption|exact l_a rfl) only [go_sem, ↓wBk, simprocAttr])
  exact hK _ _ ⟨⟨0, by rw [dF (fun h => d7 h.1.2.2.2.2)], fun h => (d7 h.1.2.2.2.2).elim⟩, S.fr⟩
 rw [dT d7]
 have hhead : okHead o := ⟨⟨by omega, by omega⟩, ⟨by omega, by omega⟩, d5, d6, d7⟩
 (try simp (disch := first|omega|assumption|exact l_a rfl) only [go_sem, ↓wBk, simprocAttr, F, Odr.enc])
 refine lI (fun ρ h' => ρ 1 = .int .i64 k ∧ ρ 2 = .pointer (some ⟨g, 0, none⟩) ∧ ρ 49 = .slice o.A o.ls.length o.c ∧ ρ 50 = .int .i64 o.ls.length ∧ ∃ i : Nat, ρ 51 = .int .i64 i ∧ i ≤ o.ls.length ∧ (∀ l ∈ o.ls.take i, okLine k l) ∧ ρ 6 = .int .i64 (cntOf (o.ls.take i)) ∧ ρ 7 = .int .i64 (allOf (o.ls.take i)) ∧
  St h0 h' [cellA g o.enc 118]) (fun ρ _ => o.ls.length - (iv (ρ 51)).toNat) ?_ ?_
 ·(try simp (disch := first|omega|assumption|exact l_a rfl) only [go_sem, ↓wBk, simprocAttr])
  exact ⟨0, rfl, by omega, by simp, rfl, rfl, S⟩
 clear S F
 rintro ρ h J hJ ⟨e1, e2, e49, e50, i, e51, hi, hok, e6, e7, S⟩
 (try simp (disch := first|omega|assumption|exact l_a rfl) only [go_sem, ↓wBk, simprocAttr, e50, e51])
 refine cD (fun hlt => ?_) (fun hlt => ?_)
 ·have hil : i < o.ls.length := by omega
  obtain ⟨b, off, hA, hr1⟩ := (ha.fr S.fr (by simp)).at hil
  have hlb := all_bound hok
  have hlen : (o.ls.take i).length ≤ 8 := by rw [l_ad]; omega
  have hmem := l_v hil
  have hs1 := allOf_snoc hil
  have hs2 := cntOf_snoc hil
  have hbad : ¬ okLine k o.ls[i] → ¬ okOrder k o := fun hn h => hn (h.2.1 _ hmem)
  have htk : okLine k o.ls[i] → ∀ l ∈ o.ls.take (i + 1), okLine k l := fun hx l hl => by
   rw [l_t hil] at hl
   rcases List.mem_append.1 hl with hl | hl
   ·exact hok l hl
   ·rw [l_aa] at hl; rw [hl]; exact hx
  generalize o.ls[i] = x at *
  (try simp (disch := first|omega|assumption|exact l_a rfl) only [go_sem, ↓wBk, simprocAttr, e49, e51, hA, hr1])
  (refine tA S ?_; clear S; intro q h S; (try simp only [sC, sN, l_h, l_i, Nat.zero_add, Nat.reduceAdd, l_j, l_k] at S); ((try clear F); have F := S.all; (try simp only [aC, aN, yC, and_true] at F)))
  (try simp (disch := first|omega|assumption|exact l_a rfl) only [go_sem, ↓wBk, simprocAttr, F, Lin.enc])
  (refine tS (by first | exact S | exact S.p1 | exact S.p2 | exact S.p3 | exact S.p4 | exact S.p5 | exact S.p6 | exact S.p7 | exact S.p8 | exact S.p9 | exact S.p10 | exact S.p11) (by rfl) (by rfl) (l_a rfl) ?_; clear S; intro h S; (try simp only [sC, sN, l_h, l_i, Nat.zero_add, Nat.reduceAdd, l_j, l_k] at S); ((try clear F); have F := S.all; (try simp only [aC, aN, yC, and_true] at F)))
  (try simp (disch := first|omega|assumption|exact l_a rfl) only [go_sem, ↓wBk, simprocAttr, F])
  refine cI (some_ok _ _ _ _) ?_
  rintro _ _ ⟨rfl, rfl⟩
  by_cases c1 : okSome x.sku x.price x.count
  case neg =>
   rw [dF c1]
   (try simp (disch := first|omega|assumption|exact l_a rfl) only [go_sem, ↓wBk, simprocAttr])
   exact hK _ _ ⟨⟨0, by rw [dF (hbad fun h => c1 h.1)], fun h => (hbad (fun h => c1 h.1) h).elim⟩, S.fr⟩
  rw [dT c1]
  by_cases c2 : x.cat < 0
  ·(try simp (disch := first|omega|assumption|exact l_a rfl) only [go_sem, ↓wBk, simprocAttr, F, c2])
   exact hK _ _ ⟨⟨0, by rw [dF (hbad fun h => by have := h.2.1; omega)], fun h => (hbad (fun h => by have := h.2.1; omega) h).elim⟩, S.fr⟩
  by_cases c3 : k ≤ x.cat
  ·(try simp (disch := first|omega|assumption|exact l_a rfl) only [go_sem, ↓wBk, simprocAttr, F, c2, e1, c3])
   exact hK _ _ ⟨⟨0, by rw [dF (hbad fun h => by have := h.2.2; omega)], fun h => (hbad (fun h => by have := h.2.2; omega) h).elim⟩, S.fr⟩
  have hx : okLine k x := ⟨c1, by omega, by omega⟩
  have hxb := line_bound hx
  have w1 : IntKind.i64.wrap (cntOf (o.ls.take i) + x.count) = cntOf (o.ls.take i) + x.count := by
   have := c1.2.2
   exact wrap_i64 (by omega) (by omega)
  have w2 : IntKind.i64.wrap (x.price * x.count) = x.price * x.count := wrap_i64 (by omega) (by omega)
  have w3 : IntKind.i64.wrap (allOf (o.ls.take i) + x.price * x.count) = allOf (o.ls.take i) + x.price * x.count := wrap_i64 (by omega) (by omega)
  (try simp (disch := first|omega|assumption|exact l_a rfl) only [go_sem, ↓wBk, simprocAttr, F, c2, e1, c3, e6, e7, w1, w2, w3, e51])
  refine hJ _ _ ?_ ?_
  ·(try simp (disch := first|omega|assumption|exact l_a rfl) only [go_sem, ↓wBk, simprocAttr, e1, e2, e49, e50, hA])
   exact ⟨i + 1, rfl, by omega, htk hx, by rw [hs2], by rw [hs1], S.tl⟩
  ·(try simp (disch := first|omega|assumption|exact l_a rfl) only [go_sem, ↓wBk, simprocAttr, e51])
   omega
 ·obtain rfl : i = o.ls.length := by omega
  rw [l_aj] at hok e6 e7
  ((try clear F); have F := S.all; (try simp only [aC, aN, yC, and_true] at F))
  (try simp (disch := first|omega|assumption|exact l_a rfl) only [go_sem, ↓wBk, simprocAttr])
  refine dE ?_
  (try simp (disch := first|omega|assumption|exact l_a rfl) only [go_sem, ↓wBk, simprocAttr, e2, e6, e7, F, Odr.enc])
  refine hK _ _ ⟨⟨_, congrArg (fun b => Value.tuple #[.int .i64 (cntOf o.ls), .bool b]) (congrArg dcd (propext ⟨fun h => ⟨hhead, hok, h⟩, fun h => h.2.2⟩)), fun _ => rfl⟩, S.fr⟩
end
section
set_option maxHeartbeats 8000000
theorem arrTake {α : Type} {enc : α → List Value} {sz : Nat} {h : Heap} {A : Option Addr} {xs : List α} (ha : Arr enc sz h A xs) (k : Nat) : Arr enc sz h A (xs.take k) := by
 intro i hi
 rw [l_ad] at hi
 obtain ⟨b, off, e, hr⟩ := ha i (by omega)
 exact ⟨b, off, e, by rw [List.getElem_take]; exact hr⟩
def ordSum (os : List Odr) : Int := (os.map fun o => cntOf o.ls).sum
def supSum (ss : List Sup) : Int := (ss.map Sup.count).sum
theorem ordSum_snoc {os : List Odr} {i : Nat} (hi : i < os.length) : ordSum (os.take (i + 1)) = ordSum (os.take i) + cntOf os[i].ls := by
 rw [l_t hi, ordSum, l_al, List.sum_append]
 simp [ordSum]
theorem supSum_snoc {ss : List Sup} {i : Nat} (hi : i < ss.length) : supSum (ss.take (i + 1)) = supSum (ss.take i) + ss[i].count := by
 rw [l_t hi, supSum, l_al, List.sum_append]
 simp [supSum]
theorem ord_bound {k : Int} : ∀ {os : List Odr}, (∀ o ∈ os, okOrder k o) → 0 ≤ ordSum os ∧ ordSum os ≤ 400 * os.length
 | [], _ => by simp [ordSum]
 | x :: os, h => by
  obtain ⟨⟨_, hx, _⟩, h1, _⟩ := h x (by simp)
  have h1 := all_bound h1
  have h2 := ord_bound (os := os) fun y hy => h y (by simp [hy])
  unfold ordSum at h2 ⊢
  simp only [List.map_cons, List.sum_cons, l_f]
  omega
theorem sup_bound : ∀ {ss : List Sup}, (∀ s ∈ ss, okSup s) → 0 ≤ supSum ss ∧ supSum ss ≤ 50 * ss.length
 | [], _ => by simp [supSum]
 | x :: ss, h => by
  obtain ⟨_, _, h1⟩ := h x (by simp)
  have h2 := sup_bound (ss := ss) fun y hy => h y (by simp [hy])
  unfold supSum at h2 ⊢
  simp only [List.map_cons, List.sum_cons, l_f]
  omega
theorem sups_snoc {ss : List Sup} {i : Nat} (hi : i < ss.length) (h : okSups (ss.take i)) (hs : okSup ss[i]) (hn : ¬ ∃ x ∈ ss.take i, x.sku = ss[i].sku) : okSups (ss.take (i + 1)) := by
 rw [l_t hi]
 refine ⟨fun x hx => ?_, ?_⟩
 ·rcases List.mem_append.1 hx with hx | hx
  ·exact h.1 x hx
  ·rw [l_aa] at hx; rw [hx]; exact hs
 ·rw [List.pairwise_append]
  refine ⟨h.2, by simp, fun a ha b hb => ?_⟩
  rw [l_aa] at hb
  rw [hb]
  exact fun e => hn ⟨a, ha, e⟩
theorem sups_no {ss : List Sup} {i : Nat} (hi : i < ss.length) (h : okSups ss) : okSup ss[i] ∧ ¬ ∃ x ∈ ss.take i, x.sku = ss[i].sku := by
 refine ⟨h.1 _ (l_v hi), ?_⟩
 rintro ⟨x, hx, e⟩
 have hp := h.2
 rw [show ss = ss.take i ++ ss.drop i from (List.take_append_drop i ss).symm, List.pairwise_append] at hp
 exact hp.2.2 x hx ss[i] (by rw [List.drop_eq_getElem_cons hi]; exact l_n ..) e
section
variable {h0 h : Heap} {l : List HP}
theorem supAsk {p : Nat} {s : Sup} (S : St h0 h (cellA p s.enc 121 :: l)) : Asks Tryz.prog Sup.enc h [] (.func (.func 91) #[] (List.toArray [.pointer (some ⟨p, 0, none⟩)])) fun m => dcd (m.sku = s.sku) := by
 refine ⟨_, _, rfl, ok_order_Right_1, fun x h' hf => ?_⟩
 have S := S.frame hf
 have S2 : St h' h' [] := St.nil h'
 have hr : ∀ h'', Fr h' h'' [] → rd1 h'' (.pointer (some ⟨p, 0, none⟩)) = some (.int .i64 s.sku) := fun h'' hf => st_rd1 (S.frame hf)
 (refine eK c_order_Right_1 (l_a rfl) fun K hK => ?_; (try simp (disch := first|omega|assumption|exact l_a rfl) only [go_sem, ↓wBk, simprocAttr, ir_order_Right_1]))
 refine tA S2 ?_
 clear S2
 intro b h'' S2
 ((try clear F); have F := S.all; (try simp only [aC, aN, yC, and_true] at F))
 clear F
 have F := S2.all
 simp only [aC, aN, yC, and_true] at F
 (try simp (disch := first|omega|assumption|exact l_a rfl) only [go_sem, ↓wBk, simprocAttr, F, Sup.enc, hr _ S2.fr])
 exact hK _ _ ⟨rfl, S2.fr⟩
theorem ContainsS_ok {p n c : Nat} {s : Sup} {A : Option Addr} {xs : List Sup} (S : St h0 h (cellA p s.enc 121 :: l)) (ha : Arr Sup.enc 3 h A xs) (hn : n = xs.length) (hl : xs.length < 1000000) :
  CallsH Tryz.prog 90 [.slice A n c, .func (.func 91) #[] (List.toArray [.pointer (some ⟨p, 0, none⟩)])] h fun v h' => v = .bool (dcd (∃ x ∈ xs, x.sku = s.sku)) ∧ Fr h h' [] := by
 subst hn
 (refine eK c_slices_ContainsFunc_api_Supply_api_Supply (l_a rfl) fun K hK => ?_; (try simp (disch := first|omega|assumption|exact l_a rfl) only [go_sem, ↓wBk, simprocAttr, ir_slices_ContainsFunc_api_Supply_api_Supply]))
 refine cI (indexFunc_ok (sz := 3) (p := fun m : Sup => dcd (m.sku = s.sku)) c_slices_IndexFunc_api_Supply_api_Supply ha rfl (by omega) (supAsk S)) ?_
 rintro _ h1 ⟨rfl, hf⟩
 rcases idxOf_spec (fun m : Sup => dcd (m.sku = s.sku)) xs 0 with ⟨hx, hall⟩ | ⟨i, hx, hil, hbef, hat⟩
 ·have hx : idxOf (fun m : Sup => dcd (m.sku = s.sku)) xs 0 = -1 := hx
  (try simp (disch := first|omega|assumption|exact l_a rfl) only [go_sem, ↓wBk, simprocAttr, hx])
  refine hK _ _ ⟨?_, hf⟩
  rw [dF]
  rintro ⟨p, hp, hn⟩
  have := hall p hp
  rw [dT hn] at this
  cases this
 ·have hx : idxOf (fun m : Sup => dcd (m.sku = s.sku)) xs 0 = (i : Int) := by simpa using hx
  (try simp (disch := first|omega|assumption|exact l_a rfl) only [go_sem, ↓wBk, simprocAttr, hx])
  refine hK _ _ ⟨?_, hf⟩
  have := hat xs[i] (l_r hil)
  rw [dT]
  exact ⟨xs[i], l_v hil, of_dcd_true this⟩
end
theorem ORight_ok {h0 : Heap} (C : Cfg) (r : C.rd h0) (w : C.wf) (l1 : C.os.length < 1000000) (l2 : C.ss.length < 1000000) (l3 : C.ps.length < 1000000) (l4 : ∀ o ∈ C.os, o.ls.length < 1000000) :
  CallsH Tryz.prog 50 [.agg C.enc.toArray] h0 fun v h' => v = .bool (dcd (okCfg C)) ∧ Fr h0 h' [] := by
 have S := St.nil h0
 have r' : ∀ {h' : Heap} {l : List HP}, St h0 h' l → C.rd h' := fun S => r.fr S.fr
 (refine eK c_order_Right (l_a rfl) fun K hK => ?_; (try simp (disch := first|omega|assumption|exact l_a rfl) only [go_sem, ↓wBk, simprocAttr, ir_order_Right]))
 (refine tA S ?_; clear S; intro g h S; (try simp only [sC, sN, l_h, l_i, Nat.zero_add, Nat.reduceAdd, l_j, l_k] at S); ((try clear F); have F := S.all; (try simp only [aC, aN, yC, and_true] at F)))
 (try simp (disch := first|omega|assumption|exact l_a rfl) only [go_sem, ↓wBk, simprocAttr, F, Cfg.enc])
 refine cI (Right_ok (r' S).ps rfl l3) ?_
 rintro _ h ⟨rfl, hf⟩
 have S := S.frame hf
 by_cases d1 : RightT C.ps
 case neg =>
  rw [dF d1]
  (try simp (disch := first|omega|assumption|exact l_a rfl) only [go_sem, ↓wBk, simprocAttr])
  exact hK _ _ ⟨by rw [dF (fun h => d1 h.1)], S.fr⟩
 rw [dT d1]
 ((try clear F); have F := S.all; (try simp only [aC, aN, yC, and_true] at F))
 by_cases d2 : 20 < (C.os.length : Int)
 ·(try simp (disch := first|omega|assumption|exact l_a rfl) only [go_sem, ↓wBk, simprocAttr, F, Cfg.enc, d2])
  exact hK _ _ ⟨by rw [dF (fun h => by have := h.2.1; omega)], S.fr⟩
 by_cases d3 : 20 < (C.ss.length : Int)
 ·(try simp (disch := first|omega|assumption|exact l_a rfl) only [go_sem, ↓wBk, simprocAttr, F, Cfg.enc, d2, d3])
  exact hK _ _ ⟨by rw [dF (fun h => by have := h.2.2.1; omega)], S.fr⟩
 (try simp (disch := first|omega|assumption|exact l_a rfl) only [go_sem, ↓wBk, simprocAttr, F, Cfg.enc, d2, d3])
 refine lI (fun ρ h' => ρ 1 = .pointer (some ⟨g, 0, none⟩) ∧ ρ 27 = .slice C.A1 C.os.length C.c1 ∧ ρ 28 = .int .i64 C.os.length ∧ ∃ i : Nat, ρ 29 = .int .i64 i ∧ i ≤ C.os.length ∧ (∀ o ∈ C.os.take i, okOrder C.ps.length o) ∧ ρ 3 = .int .i64 (ordSum (C.os.take i)) ∧
  St h0 h' [cellA g C.enc 48]) (fun ρ _ => C.os.length - (iv (ρ 29)).toNat) ?_ ?_
 ·(try simp (disch := first|omega|assumption|exact l_a rfl) only [go_sem, ↓wBk, simprocAttr])
  exact ⟨0, rfl, by omega, by simp, rfl, S⟩
 clear S F
 rintro ρ h J hJ ⟨e1, e27, e28, i, e29, hi, hok, e3, S⟩
 (try simp (disch := first|omega|assumption|exact l_a rfl) only [go_sem, ↓wBk, simprocAttr, e28, e29])
 refine cD (fun hlt => ?_) (fun hlt => ?_)
 ·have hil : i < C.os.length := by omega
  obtain ⟨b, off, hA, hr1⟩ := (r' S).os.at hil
  have hmem := l_v hil
  have hlb := ord_bound hok
  have hlen : (C.os.take i).length ≤ 20 := by rw [l_ad]; omega
  have hs1 := ordSum_snoc hil
  have hll := l4 _ hmem
  have hrl := fun {h'} {l'} (S : St h0 h' l') => (r' S).ls _ hmem
  have hbad : ¬ okOrder C.ps.length C.os[i] → ¬ okCfg C := fun hn h => hn (h.2.2.2.1 _ hmem)
  have htk : okOrder C.ps.length C.os[i] → ∀ o ∈ C.os.take (i + 1), okOrder C.ps.length o := fun hx o ho => by
   rw [l_t hil] at ho
   rcases List.mem_append.1 ho with ho | ho
   ·exact hok o ho
   ·rw [l_aa] at ho; rw [ho]; exact hx
  generalize C.os[i] = x at *
  (try simp (disch := first|omega|assumption|exact l_a rfl) only [go_sem, ↓wBk, simprocAttr, e27, e29, hA, hr1])
  (refine tA S ?_; clear S; intro q h S; (try simp only [sC, sN, l_h, l_i, Nat.zero_add, Nat.reduceAdd, l_j, l_k] at S); ((try clear F); have F := S.all; (try simp only [aC, aN, yC, and_true] at F)))
  (try simp (disch := first|omega|assumption|exact l_a rfl) only [go_sem, ↓wBk, simprocAttr, F, Odr.enc])
  (refine tS (by first | exact S | exact S.p1 | exact S.p2 | exact S.p3 | exact S.p4 | exact S.p5 | exact S.p6 | exact S.p7 | exact S.p8 | exact S.p9 | exact S.p10 | exact S.p11) (by rfl) (by rfl) (l_a rfl) ?_; clear S; intro h S; (try simp only [sC, sN, l_h, l_i, Nat.zero_add, Nat.reduceAdd, l_j, l_k] at S); ((try clear F); have F := S.all; (try simp only [aC, aN, yC, and_true] at F)))
  (try simp (disch := first|omega|assumption|exact l_a rfl) only [go_sem, ↓wBk, simprocAttr, F, e1, Cfg.enc])
  refine cI (rightOrder_ok x C.ps.length (hrl S) (by omega)) ?_
  rintro _ h ⟨⟨n, rfl, hn⟩, hf⟩
  have S := S.frame hf
  by_cases c1 : okOrder C.ps.length x
  case neg =>
   rw [dF c1]
   (try simp (disch := first|omega|assumption|exact l_a rfl) only [go_sem, ↓wBk, simprocAttr])
   exact hK _ _ ⟨by rw [dF (hbad c1)], S.fr⟩
  rw [dT c1, hn c1]
  have hxb := all_bound c1.2.1
  have w1 : IntKind.i64.wrap (ordSum (C.os.take i) + cntOf x.ls) = ordSum (C.os.take i) + cntOf x.ls := by
   have := c1.1.2.1
   exact wrap_i64 (by omega) (by omega)
  (try simp (disch := first|omega|assumption|exact l_a rfl) only [go_sem, ↓wBk, simprocAttr, e3, w1, e29])
  refine hJ _ _ ?_ ?_
  ·(try simp (disch := first|omega|assumption|exact l_a rfl) only [go_sem, ↓wBk, simprocAttr, e1, e27, e28, hA])
   exact ⟨i + 1, rfl, by omega, htk c1, by rw [hs1], S.tl⟩
  ·(try simp (disch := first|omega|assumption|exact l_a rfl) only [go_sem, ↓wBk, simprocAttr, e29])
   omega
 obtain rfl : i = C.os.length := by omega
 rw [l_aj] at hok e3
 clear hJ
 have hob := ord_bound hok
 ((try clear F); have F := S.all; (try simp only [aC, aN, yC, and_true] at F))
 (try simp (disch := first|omega|assumption|exact l_a rfl) only [go_sem, ↓wBk, simprocAttr, e1, F, Cfg.enc])
 refine lI (fun ρ h' => ρ 1 = .pointer (some ⟨g, 0, none⟩) ∧ ρ 48 = .slice C.A2 C.ss.length C.c2 ∧ ρ 49 = .int .i64 C.ss.length ∧ ∃ i : Nat, ρ 50 = .int .i64 i ∧ i ≤ C.ss.length ∧ okSups (C.ss.take i) ∧ ρ 3 = .int .i64 (ordSum C.os + supSum (C.ss.take i)) ∧
  St h0 h' [cellA g C.enc 48]) (fun ρ _ => C.ss.length - (iv (ρ 50)).toNat) ?_ ?_
 ·(try simp (disch := first|omega|assumption|exact l_a rfl) only [go_sem, ↓wBk, simprocAttr, e1, e3])
  exact ⟨0, rfl, by omega, ⟨by simp, by simp⟩, by simp [supSum], S⟩
 clear S F e1 e27 e28 e29 e3
 rintro ρ h J hJ ⟨e1, e48, e49, i, e50, hi, hsu, e3, S⟩
 (try simp (disch := first|omega|assumption|exact l_a rfl) only [go_sem, ↓wBk, simprocAttr, e49, e50])
 refine cD (fun hlt => ?_) (fun hlt => ?_)
 ·have hil : i < C.ss.length := by omega
  obtain ⟨b, off, hA, hr1⟩ := (r' S).ss.at hil
  have hsb := sup_bound hsu.1
  have hlen : (C.ss.take i).length ≤ 20 := by rw [l_ad]; omega
  have hs1 := supSum_snoc hil
  have hno := fun h : okCfg C => sups_no hil h.2.2.2.2.1
  have hsn := sups_snoc hil hsu
  have hc2 := w.l2
  have hm2 := w.m2
  generalize C.ss[i] = x at *
  (try simp (disch := first|omega|assumption|exact l_a rfl) only [go_sem, ↓wBk, simprocAttr, e48, e50, hA, hr1])
  (refine tA S ?_; clear S; intro q h S; (try simp only [sC, sN, l_h, l_i, Nat.zero_add, Nat.reduceAdd, l_j, l_k] at S); ((try clear F); have F := S.all; (try simp only [aC, aN, yC, and_true] at F)))
  (try simp (disch := first|omega|assumption|exact l_a rfl) only [go_sem, ↓wBk, simprocAttr, F, Sup.enc])
  (refine tS (by first | exact S | exact S.p1 | exact S.p2 | exact S.p3 | exact S.p4 | exact S.p5 | exact S.p6 | exact S.p7 | exact S.p8 | exact S.p9 | exact S.p10 | exact S.p11) (by rfl) (by rfl) (l_a rfl) ?_; clear S; intro h S; (try simp only [sC, sN, l_h, l_i, Nat.zero_add, Nat.reduceAdd, l_j, l_k] at S); ((try clear F); have F := S.all; (try simp only [aC, aN, yC, and_true] at F)))
  (try simp (disch := first|omega|assumption|exact l_a rfl) only [go_sem, ↓wBk, simprocAttr, F])
  refine cI (some_ok _ _ _ _) ?_
  rintro _ _ ⟨rfl, rfl⟩
  by_cases c1 : okSome x.sku x.price x.count
  case neg =>
   rw [dF c1]
   (try simp (disch := first|omega|assumption|exact l_a rfl) only [go_sem, ↓wBk, simprocAttr])
   exact hK _ _ ⟨by rw [dF (fun h => c1 (hno h).1)], S.fr⟩
  rw [dT c1]
  (try simp (disch := first|omega|assumption|exact l_a rfl) only [go_sem, ↓wBk, simprocAttr, e1, F, Cfg.enc])
  refine cI (ContainsS_ok (s := x) S (arrTake (r' S).ss i) (by rw [l_ad]; omega) (by rw [l_ad]; omega)) ?_
  rintro _ h ⟨rfl, hf⟩
  have S := S.frame hf
  ((try clear F); have F := S.all; (try simp only [aC, aN, yC, and_true] at F))
  by_cases c2 : ∃ y ∈ C.ss.take i, y.sku = x.sku
  ·rw [dT c2]
   (try simp (disch := first|omega|assumption|exact l_a rfl) only [go_sem, ↓wBk, simprocAttr])
   exact hK _ _ ⟨by rw [dF (fun h => (hno h).2 c2)], S.fr⟩
  rw [dF c2]
  have w1 : IntKind.i64.wrap (ordSum C.os + supSum (C.ss.take i) + x.count) = ordSum C.os + supSum (C.ss.take i) + x.count := by
   have := c1.2.2
   exact wrap_i64 (by omega) (by omega)
  (try simp (disch := first|omega|assumption|exact l_a rfl) only [go_sem, ↓wBk, simprocAttr, e3, F, w1, e50, Sup.enc])
  refine hJ _ _ ?_ ?_
  ·(try simp (disch := first|omega|assumption|exact l_a rfl) only [go_sem, ↓wBk, simprocAttr, e1, e48, e49, hA])
   exact ⟨i + 1, rfl, by omega, hsn c1 c2, by rw [hs1, Int.add_assoc], S.tl⟩
  ·(try simp (disch := first|omega|assumption|exact l_a rfl) only [go_sem, ↓wBk, simprocAttr, e50])
   omega
 obtain rfl : i = C.ss.length := by omega
 rw [l_aj] at hsu e3
 (try simp (disch := first|omega|assumption|exact l_a rfl) only [go_sem, ↓wBk, simprocAttr, e3])
 exact hK _ _ ⟨congrArg Value.bool (congrArg dcd (propext ⟨fun h => ⟨d1, by omega, by omega, hok, hsu, h⟩, fun h => h.2.2.2.2.2⟩)), S.fr⟩
end
end Go.Proofs.YtijnkebgciaieaaGreat.MX
