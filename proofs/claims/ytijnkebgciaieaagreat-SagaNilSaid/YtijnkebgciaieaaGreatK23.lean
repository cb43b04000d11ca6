import Derived.Test.YtijnkebgciaieaaGreatK14
import Derived.Test.YtijnkebgciaieaaGreatK22
import Derived.Test.YtijnkebgciaieaaGreatK16
namespace Go.Proofs.YtijnkebgciaieaaGreat.MX
open Go Go.Proofs
set_option linter.unusedSimpArgs false
set_option linter.unusedVariables false
section
set_option maxHeartbeats 4000000
structure KU where
 place : Int
 sku : Int
 recv : Bool
 grad : Bool
def KU.enc (x : KU) : List Value := [.int .i64 x.place, .int .i64 x.sku, .bool x.recv, .bool x.grad]
theorem KU.enc_len (x : KU) : x.enc.length = 4 := rfl
theorem KU.enc_plain (x : KU) : pC x.enc = true := rfl
def stockA (k : Nat) (K : List KU) : HP := exA fun s => starA (cellA k [s] 105) (ownA KU.enc 4 103 s K)
def placeK (K : List KU) (n : Int) : Int := if 0 ≤ n then ((K[n.toNat]?).map KU.place).getD (-1) else -1
def stkOf (sk at_ : List Int) : List KU := List.zipWith (fun s p => ⟨p, s, false, false⟩) sk at_
def okAt (at_ : List Int) : Prop := ∀ p ∈ at_, 0 ≤ p ∧ p < 9
section
variable {h0 h : Heap} {l : List HP} {k : Nat} {K : List KU}
theorem St.stk : St h0 h (stockA k K :: l) ↔ ∃ s, St h0 h (cellA k [s] 105 :: ownA KU.enc 4 103 s K :: l) := by
 rw [stockA, St.ex]
 exact exists_congr fun s => St.star
theorem has_ok (n : Int) (S : St h0 h (stockA k K :: l)) : CallsH Tryz.prog 49 [.pointer (some ⟨k, 0, none⟩), .int .i64 n] h fun v h' => v = .bool (dcd (0 ≤ n ∧ n < K.length)) ∧ h' = h := by
 obtain ⟨s, S⟩ := St.stk.1 S
 obtain ⟨A, c, rfl⟩ := S.p1.sl
 ((try clear F); have F := S.all; (try simp only [aC, aN, yC, and_true] at F))
 by_cases h1 : 0 ≤ n
 ·by_cases h2 : n < K.length
  ·(refine eK c_stock_Stock_has (l_a rfl) fun K hK => ?_; (try simp (disch := first|omega|assumption|exact l_a rfl) only [go_sem, ↓wBk, simprocAttr, ir_stock_Stock_has]))
   (try simp (disch := first|omega|assumption|exact l_a rfl) only [go_sem, ↓wBk, simprocAttr, F, h1, h2])
   exact hK _ _ ⟨by rw [dT ⟨h1, h2⟩], rfl⟩
  ·(refine eK c_stock_Stock_has (l_a rfl) fun K hK => ?_; (try simp (disch := first|omega|assumption|exact l_a rfl) only [go_sem, ↓wBk, simprocAttr, ir_stock_Stock_has]))
   (try simp (disch := first|omega|assumption|exact l_a rfl) only [go_sem, ↓wBk, simprocAttr, F, h1, h2])
   exact hK _ _ ⟨by rw [dF fun h => h2 h.2], rfl⟩
 ·(refine eK c_stock_Stock_has (l_a rfl) fun K hK => ?_; (try simp (disch := first|omega|assumption|exact l_a rfl) only [go_sem, ↓wBk, simprocAttr, ir_stock_Stock_has]))
  (try simp (disch := first|omega|assumption|exact l_a rfl) only [go_sem, ↓wBk, simprocAttr, F, h1])
  exact hK _ _ ⟨by rw [dF fun h => h1 h.1], rfl⟩
theorem PlaceK_ok (n : Int) (S : St h0 h (stockA k K :: l)) : CallsH Tryz.prog 29 [.pointer (some ⟨k, 0, none⟩), .int .i64 n] h fun v h' => v = .int .i64 (placeK K n) ∧ h' = h := by
 by_cases h1 : 0 ≤ n ∧ n < K.length
 ·obtain ⟨i, rfl⟩ := l_u h1.1
  have hi : i < K.length := by omega
  (refine eK c_stock_Stock_Place (l_a rfl) fun K hK => ?_; (try simp (disch := first|omega|assumption|exact l_a rfl) only [go_sem, ↓wBk, simprocAttr, ir_stock_Stock_Place]))
  refine cI (has_ok _ S) ?_
  rintro _ _ ⟨rfl, rfl⟩
  rw [dT h1]
  obtain ⟨s, S⟩ := St.stk.1 S
  obtain ⟨A, c, rfl⟩ := S.p1.sl
  obtain ⟨b, rfl⟩ := S.p1.ownAt (by omega)
  have hp := own_part KU.enc_len S.p1 (i := i) (j := 0) hi (by omega)
  simp only [KU.enc, l_o, Nat.add_zero] at hp
  ((try clear F); have F := S.all; (try simp only [aC, aN, yC, and_true] at F))
  (try simp (disch := first|omega|assumption|exact l_a rfl) only [go_sem, ↓wBk, simprocAttr, F, hp])
  refine hK _ _ ⟨?_, rfl⟩
  rw [placeK, if_pos h1.1, l_ap, l_r hi]
  rfl
 ·(refine eK c_stock_Stock_Place (l_a rfl) fun K hK => ?_; (try simp (disch := first|omega|assumption|exact l_a rfl) only [go_sem, ↓wBk, simprocAttr, ir_stock_Stock_Place]))
  refine cI (has_ok _ S) ?_
  rintro _ _ ⟨rfl, rfl⟩
  rw [dF h1]
  (try simp (disch := first|omega|assumption|exact l_a rfl) only [go_sem, ↓wBk, simprocAttr])
  refine hK _ _ ⟨?_, rfl⟩
  rw [placeK]
  split
  ·rw [List.getElem?_eq_none (by omega)]; rfl
  ·rfl
theorem CloneKU_ok {A : Option Addr} {n c : Nat} {xs : List KU} (S : St h0 h l) (ha : Arr KU.enc 4 h A xs) (hn : n = xs.length) (hl : xs.length < 1000000000) :
  CallsH Tryz.prog 46 [.slice A n c] h fun v h' => St h0 h' (ownA KU.enc 4 103 v xs :: l) :=
 (clone_ok (T := 103) (sz := 4) (bytes := 24) c_slices_Clone_stock_unit_stock_unit KU.enc_len (by omega) KU.enc_plain rfl ha hn (arr_none ha) (by omega) (by omega)).mono fun v h' ⟨ho, hf, _⟩ => S.ownNew hf ho
theorem CloneK_ok (S : St h0 h (stockA k K :: l)) (hl : K.length < 1000000) : CallsH Tryz.prog 21 [.pointer (some ⟨k, 0, none⟩)] h fun v h' => ∃ p, v = .pointer (some ⟨p, 0, none⟩) ∧ St h0 h' (stockA p K :: stockA k K :: l) := by
 obtain ⟨s, S⟩ := St.stk.1 S
 obtain ⟨A, c, rfl⟩ := S.p1.sl
 ((try clear F); have F := S.all; (try simp only [aC, aN, yC, and_true] at F))
 (refine eK c_stock_Stock_Clone (l_a rfl) fun K hK => ?_; (try simp (disch := first|omega|assumption|exact l_a rfl) only [go_sem, ↓wBk, simprocAttr, ir_stock_Stock_Clone]))
 (try simp (disch := first|omega|assumption|exact l_a rfl) only [go_sem, ↓wBk, simprocAttr, F])
 refine cI (CloneKU_ok S (S.p1.arr KU.enc_len) rfl (by omega)) ?_
 clear S F
 intro v h S
 obtain ⟨B, d, rfl⟩ := S.sl
 (try simp (disch := first|omega|assumption|exact l_a rfl) only [go_sem, ↓wBk, simprocAttr])
 (refine tA S ?_; clear S; intro p h S; (try simp only [sC, sN, l_h, l_i, Nat.zero_add, Nat.reduceAdd, l_j, l_k] at S); ((try clear F); have F := S.all; (try simp only [aC, aN, yC, and_true] at F)))
 (try simp (disch := first|omega|assumption|exact l_a rfl) only [go_sem, ↓wBk, simprocAttr])
 exact hK _ _ ⟨p, rfl, St.stk.2 ⟨_, (St.stk.2 ⟨_, S.p2.p3.p1⟩).p1.p2.p1⟩⟩
theorem NewK_ok {A B : Option Addr} {c d : Nat} {sk at_ : List Int} (S : St h0 h l) (ha : ∀ h', St h0 h' l → Arr zEnc 1 h' A sk) (hb : ∀ h', St h0 h' l → Arr zEnc 1 h' B at_) (l1 : sk.length < 1000000) (l2 : at_.length < 1000000) :
  CallsH Tryz.prog 31 [.slice A sk.length c, .slice B at_.length d] h fun v h' => (¬ (sk.length = at_.length ∧ sk.length ≤ 200 ∧ okAt at_) ∧ v = .tuple #[.pointer none, .int .i64 1] ∧ St h0 h' l) ∨
   ((sk.length = at_.length ∧ sk.length ≤ 200 ∧ okAt at_) ∧ ∃ k, v = .tuple #[.pointer (some ⟨k, 0, none⟩), .int .i64 0] ∧ St h0 h' (stockA k (stkOf sk at_) :: l)) := by
 by_cases h1 : (sk.length : Int) = at_.length
 case neg =>
  (refine eK c_stock_New (l_a rfl) fun K hK => ?_; (try simp (disch := first|omega|assumption|exact l_a rfl) only [go_sem, ↓wBk, simprocAttr, ir_stock_New]))
  (try simp (disch := first|omega|assumption|exact l_a rfl) only [go_sem, ↓wBk, simprocAttr])
  exact hK _ _ (.inl ⟨fun h => h1 (by omega), rfl, S⟩)
 by_cases h2 : 200 < (sk.length : Int)
 ·(refine eK c_stock_New (l_a rfl) fun K hK => ?_; (try simp (disch := first|omega|assumption|exact l_a rfl) only [go_sem, ↓wBk, simprocAttr, ir_stock_New]))
  (try simp (disch := first|omega|assumption|exact l_a rfl) only [go_sem, ↓wBk, simprocAttr])
  exact hK _ _ (.inl ⟨fun h => by omega, rfl, S⟩)
 (refine eK c_stock_New (l_a rfl) fun K hK => ?_; (try simp (disch := first|omega|assumption|exact l_a rfl) only [go_sem, ↓wBk, simprocAttr, ir_stock_New]))
 (try simp (disch := first|omega|assumption|exact l_a rfl) only [go_sem, ↓wBk, simprocAttr])
 (refine tA S ?_; clear S; intro k h S; (try simp only [sC, sN, l_h, l_i, Nat.zero_add, Nat.reduceAdd, l_j, l_k] at S); ((try clear F); have F := S.all; (try simp only [aC, aN, yC, and_true] at F)))
 have S : St h0 h (ownA KU.enc 4 103 (.slice none 0 0) [] :: _) := S.nilS
 (try simp (disch := first|omega|assumption|exact l_a rfl) only [go_sem, ↓wBk, simprocAttr])
 refine lI (fun ρ h' => ρ 0 = .slice A sk.length c ∧ ρ 6 = .pointer (some ⟨k, 0, none⟩) ∧ ρ 21 = .slice B at_.length d ∧ ρ 22 = .int .i64 at_.length ∧ ∃ i : Nat, ρ 23 = .int .i64 i ∧ i ≤ at_.length ∧ okAt (at_.take i) ∧ ∃ (E : Option Addr) (e : Nat),
  St h0 h' (ownA KU.enc 4 103 (.slice E (stkOf (sk.take i) (at_.take i)).length e) (stkOf (sk.take i) (at_.take i)) :: cellA k [.slice E (stkOf (sk.take i) (at_.take i)).length e] 105 :: l)) (fun ρ _ => at_.length - (iv (ρ 23)).toNat) ?_ ?_
 ·(try simp (disch := first|omega|assumption|exact l_a rfl) only [go_sem, ↓wBk, simprocAttr])
  exact ⟨0, rfl, by omega, by simp [okAt], none, 0, S⟩
 clear S F
 rintro ρ h J hJ ⟨e0, e6, e21, e22, i, e23, hi, hok, E, e, S⟩
 (try simp (disch := first|omega|assumption|exact l_a rfl) only [go_sem, ↓wBk, simprocAttr, e22, e23])
 refine cD (fun hlt => ?_) (fun hlt => ?_)
 ·have hil : i < at_.length := by omega
  have hil2 : i < sk.length := by omega
  obtain ⟨b1, o1, rfl, q1⟩ := (hb _ S.tl.tl).at hil
  obtain ⟨b2, o2, rfl, q2⟩ := (ha _ S.tl.tl).at hil2
  have q1 := rP0 q1 (by omega)
  have q2 := rP0 q2 (by omega)
  simp only [zEnc, l_o] at q1 q2
  have hmem := l_v hil
  have hll : (stkOf (sk.take i) (at_.take i)).length = i := by
   rw [stkOf, List.length_zipWith, l_ad, l_ad]; omega
  have hs1 : stkOf (sk.take (i + 1)) (at_.take (i + 1)) = stkOf (sk.take i) (at_.take i) ++ [⟨at_[i], sk[i], false, false⟩] := by
   rw [l_t hil, l_t hil2, stkOf, List.zipWith_append (by rw [l_ad, l_ad]; omega)]
   rfl
  have htk : (0 ≤ at_[i] ∧ at_[i] < 9) → okAt (at_.take (i + 1)) := fun hx p hp => by
   rw [l_t hil] at hp
   rcases List.mem_append.1 hp with hp | hp
   ·exact hok p hp
   ·rw [l_aa] at hp; rw [hp]; exact hx
  have hbad : ¬ (0 ≤ at_[i] ∧ at_[i] < 9) → ¬ (sk.length = at_.length ∧ sk.length ≤ 200 ∧ okAt at_) := fun hn h => hn (h.2.2 _ hmem)
  have hq2 : ∀ {h' : Heap} {L : List HP}, St h0 h' (L ++ l) → rd1 h' (.pointer (some ⟨b2, o2 + i * 1, none⟩)) = some (.int .i64 sk[i]) := fun S' => by
   obtain ⟨b3, o3, hA, q3⟩ := (ha _ S'.dropL).at hil2
   cases hA
   have q3 := rP0 q3 (by omega)
   simpa only [zEnc, l_o] using q3
  generalize at_[i] = x at *
  generalize sk[i] = y at *
  by_cases c1 : x < 0
  ·(try simp (disch := first|omega|assumption|exact l_a rfl) only [go_sem, ↓wBk, simprocAttr, e21, e23, q1, c1])
   exact hK _ _ (.inl ⟨hbad (by omega), rfl, S.tl.tl⟩)
  by_cases c2 : 9 ≤ x
  ·(try simp (disch := first|omega|assumption|exact l_a rfl) only [go_sem, ↓wBk, simprocAttr, e21, e23, q1, c1, c2])
   exact hK _ _ (.inl ⟨hbad (by omega), rfl, S.tl.tl⟩)
  have hg0 := st_rd1 (off := 0) S.p1
  simp only [l_o] at hg0
  generalize stkOf (sk.take i) (at_.take i) = W at *
  have hI : (fun h' => rd1 h' (.pointer (some ⟨k, 0, none⟩)) = some (.slice E W.length e) ∧ rd1 h' (.pointer (some ⟨b2, o2 + i * 1, none⟩)) = some (.int .i64 y)) h := ⟨hg0, hq2 (L := [_, _]) S⟩
  have rx : ∀ K t, readT (fun h' => rd1 h' (.pointer (some ⟨k, 0, none⟩)) = some (.slice E W.length e) ∧ rd1 h' (.pointer (some ⟨b2, o2 + i * 1, none⟩)) = some (.int .i64 y)) (fun h' => rd1 h' (.pointer (some ⟨k, 0, none⟩))) K t = K (.slice E W.length e) := fun K t => rI (fun h' hh => hh.1) h hI
  have ry : ∀ K t, readT (fun h' => rd1 h' (.pointer (some ⟨k, 0, none⟩)) = some (.slice E W.length e) ∧ rd1 h' (.pointer (some ⟨b2, o2 + i * 1, none⟩)) = some (.int .i64 y)) (fun h' => rd1 h' (.pointer (some ⟨b2, o2 + i * 1, none⟩))) K t = K (.int .i64 y) := fun K t => rI (fun h' hh => hh.2) h hI
  simp only [Nat.mul_one] at hI rx ry hq2
  (try simp (disch := first|omega|assumption|exact l_a rfl) only [go_sem, ↓wBk, simprocAttr, e21, e23, q1, c1, c2])
  refine dI (fun h' => rd1 h' (.pointer (some ⟨k, 0, none⟩)) = some (.slice E W.length e) ∧ rd1 h' (.pointer (some ⟨b2, o2 + i, none⟩)) = some (.int .i64 y)) hI ?_
  (try simp (disch := first|omega|assumption|exact l_a rfl) only [go_sem, ↓wBk, simprocAttr, e0, e6, rx, ry, Nat.mul_one])
  (refine tA S ?_; clear S; intro q h S; (try simp only [sC, sN, l_h, l_i, Nat.zero_add, Nat.reduceAdd, l_j, l_k] at S); ((try clear F); have F := S.all; (try simp only [aC, aN, yC, and_true] at F)))
  refine ⟨⟨st_rd1 (off := 0) S.p2, hq2 (L := [_, _, _]) S⟩, ?_⟩
  (try simp (disch := first|omega|assumption|exact l_a rfl) only [go_sem, ↓wBk, simprocAttr])
  refine tA1 (bytes := 24) (x := (⟨x, y, false, false⟩ : KU)) KU.enc_len (by omega) KU.enc_plain rfl rfl S (by omega) (by omega) ?_
  clear S F
  intro v h S
  rw [← hs1] at S
  obtain ⟨E', e', rfl⟩ := S.sl
  (try simp (disch := first|omega|assumption|exact l_a rfl) only [go_sem, ↓wBk, simprocAttr])
  refine tS S.p1 (by rfl) (by rfl) (l_a rfl) ?_
  clear S
  intro h S
  (try simp only [sC, sN, l_h, l_i, Nat.zero_add, Nat.reduceAdd, l_j, l_k] at S)
  (try simp (disch := first|omega|assumption|exact l_a rfl) only [go_sem, ↓wBk, simprocAttr, e23])
  refine hJ _ _ ?_ ?_
  ·(try simp (disch := first|omega|assumption|exact l_a rfl) only [go_sem, ↓wBk, simprocAttr, e0, e6, e21, e22])
   exact ⟨i + 1, rfl, by omega, htk (by omega), E', e', S.p1⟩
  ·(try simp (disch := first|omega|assumption|exact l_a rfl) only [go_sem, ↓wBk, simprocAttr, e23])
   omega
 obtain rfl : i = at_.length := by omega
 have hx : sk.take at_.length = sk := by rw [← (show sk.length = at_.length by omega), l_aj]
 rw [hx, l_aj] at S
 rw [l_aj] at hok
 (try simp (disch := first|omega|assumption|exact l_a rfl) only [go_sem, ↓wBk, simprocAttr, e6])
 exact hK _ _ (.inr ⟨⟨by omega, by omega, hok⟩, k, rfl, St.stk.2 ⟨_, S.p1⟩⟩)
end
end
section
set_option maxHeartbeats 16000000
end
section
set_option maxHeartbeats 8000000
theorem cnt_le {k : Int} : ∀ {os : List Odr}, (∀ o ∈ os, okOrder k o) → ∀ o ∈ os, cntOf o.ls ≤ ordSum os
 | [], _, o, ho => by cases ho
 | x :: os, h, o, ho => by
  have h1 := all_bound (h x (by simp)).2.1
  have h2 := ord_bound (os := os) fun y hy => h y (by simp [hy])
  have h3 := cnt_le (os := os) fun y hy => h y (by simp [hy])
  simp only [ordSum, List.map_cons, List.sum_cons] at h2 h3 ⊢
  rcases List.mem_cons.1 ho with rfl | ho
  ·omega
  ·have := h3 o ho; omega
theorem okCfg.okO {C : Cfg} (h : okCfg C) : ∀ o ∈ C.os, OkO o := fun o ho => by
 obtain ⟨_, h1, h2, h3, h4, h5⟩ := h
 obtain ⟨⟨_, ⟨n0, n1⟩, d, t, s⟩, hl, hd⟩ := h3 o ho
 have hc := cnt_le h3 o ho
 have hs := sup_bound h4.1
 have ht : totOf C = ordSum C.os + supSum C.ss := rfl
 exact ⟨⟨_, hl⟩, n0, n1, by omega, d, t, s, hd⟩
theorem unitsOf_len {o : Odr} (h : OkO o) (i : Int) : ((unitsOf o i).length : Int) = cntOf o.ls := by
 rw [unitsOf, unitsR_len h, (len_sum o.ls h.count).1]
theorem ordsU_len : ∀ {os : List Odr} (i : Nat), (∀ o ∈ os, OkO o) → ((ordsU i os).length : Int) = ordSum os
 | [], i, _ => rfl
 | x :: os, i, h => by
  have h1 := unitsOf_len (h x (by simp)) i
  have h2 := ordsU_len (os := os) (i + 1) fun y hy => h y (by simp [hy])
  simp only [ordsU, l_m, ordSum, List.map_cons, List.sum_cons] at h2 ⊢
  omega
theorem ordsU_snoc {os : List Odr} {i : Nat} (hi : i < os.length) : ordsU 0 (os.take (i + 1)) = ordsU 0 (os.take i) ++ unitsOf os[i] i := by
 rw [l_t hi, ordsU_app, l_ad, Nat.min_eq_left (by omega)]
 simp [ordsU]
theorem supU_snoc {ss : List Sup} {i : Nat} (hi : i < ss.length) : (ss.take (i + 1)).flatMap supU = (ss.take i).flatMap supU ++ supU ss[i] := by
 rw [l_t hi, List.flatMap_append]
 simp
theorem supU_len : ∀ {ss : List Sup}, (∀ s ∈ ss, okSup s) → ((ss.flatMap supU).length : Int) = supSum ss
 | [], _ => rfl
 | x :: ss, h => by
  have h1 := (h x (by simp)).2.2
  have h2 := supU_len (ss := ss) fun y hy => h y (by simp [hy])
  simp only [List.flatMap_cons, l_m, supU, l_ah, supSum, List.map_cons, List.sum_cons] at h2 ⊢
  omega
theorem sumTake_le {k : Int} {os : List Odr} (h : ∀ o ∈ os, okOrder k o) (i : Nat) : ordSum (os.take i) ≤ ordSum os := by
 have h1 := ord_bound (os := os.drop i) fun o ho => h o (List.mem_of_mem_drop ho)
 have : ordSum os = ordSum (os.take i) + ordSum (os.drop i) := by
  conv => lhs; rw [← List.take_append_drop i os]
  rw [ordSum, l_al, List.sum_append]; rfl
 omega
theorem supTake_le {ss : List Sup} (h : ∀ s ∈ ss, okSup s) (i : Nat) : supSum (ss.take i) ≤ supSum ss := by
 have h1 := sup_bound (ss := ss.drop i) fun o ho => h o (List.mem_of_mem_drop ho)
 have : supSum ss = supSum (ss.take i) + supSum (ss.drop i) := by
  conv => lhs; rw [← List.take_append_drop i ss]
  rw [supSum, l_al, List.sum_append]; rfl
 omega
section
variable {h0 h : Heap} {l : List HP}
theorem OUnits_ok (C : Cfg) (r : ∀ h', St h0 h' l → C.rd h') (w : C.wf) (l1 : C.os.length < 1000000) (l2 : C.ss.length < 1000000) (l3 : C.ps.length < 1000000) (l4 : ∀ o ∈ C.os, o.ls.length < 1000000) (S : St h0 h l) :
  CallsH Tryz.prog 30 [.agg C.enc.toArray] h fun v h' => (¬ okCfg C ∧ v = .tuple #[.slice none 0 0, .int .i64 1] ∧ St h0 h' l) ∨ (okCfg C ∧ ∃ s, v = .tuple #[s, .int .i64 0] ∧ St h0 h' (ownA Unt.enc 4 70 s (unitsAll C) :: l)) := by
 (refine eK c_order_Units (l_a rfl) fun K hK => ?_; (try simp (disch := first|omega|assumption|exact l_a rfl) only [go_sem, ↓wBk, simprocAttr, ir_order_Units]))
 (refine tA S ?_; clear S; intro g h S; (try simp only [sC, sN, l_h, l_i, Nat.zero_add, Nat.reduceAdd, l_j, l_k] at S); ((try clear F); have F := S.all; (try simp only [aC, aN, yC, and_true] at F)))
 (try simp (disch := first|omega|assumption|exact l_a rfl) only [go_sem, ↓wBk, simprocAttr, F, Cfg.enc])
 have hR := ORight_ok C (r h S.tl) w l1 l2 l3 l4
 rw [show [Value.slice C.A1 C.os.length C.c1, Value.slice C.A2 C.ss.length C.c2, Value.slice C.A3 C.ps.length C.c3] = C.enc from rfl]
 refine cI hR ?_
 rintro _ h ⟨rfl, hf⟩
 have S := S.frame hf
 by_cases hok : okCfg C
 case neg =>
  rw [dF hok]
  (try simp (disch := first|omega|assumption|exact l_a rfl) only [go_sem, ↓wBk, simprocAttr])
  exact hK _ _ (.inl ⟨hok, rfl, S.tl⟩)
 rw [dT hok]
 obtain ⟨_, k1, k2, k3, k4, k5⟩ := id hok
 have hOk := hok.okO
 have ht : totOf C = ordSum C.os + supSum C.ss := rfl
 have hob := ord_bound k3
 have hsb := sup_bound k4.1
 ((try clear F); have F := S.all; (try simp only [aC, aN, yC, and_true] at F))
 have S : St h0 h (ownA Unt.enc 4 70 (.slice none 0 0) [] :: _) := S.nilS
 (try simp (disch := first|omega|assumption|exact l_a rfl) only [go_sem, ↓wBk, simprocAttr, F, Cfg.enc])
 refine lI (fun ρ h' => ρ 1 = .pointer (some ⟨g, 0, none⟩) ∧ ρ 13 = .slice C.A1 C.os.length C.c1 ∧ ρ 14 = .int .i64 C.os.length ∧ ∃ i : Nat, ρ 15 = .int .i64 i ∧ i ≤ C.os.length ∧ ∃ (Au : Option Addr) (cu : Nat), ρ 4 = .slice Au (ordsU 0 (C.os.take i)).length cu ∧
  St h0 h' (ownA Unt.enc 4 70 (.slice Au (ordsU 0 (C.os.take i)).length cu) (ordsU 0 (C.os.take i)) :: cellA g C.enc 48 :: l)) (fun ρ _ => C.os.length - (iv (ρ 15)).toNat) ?_ ?_
 ·(try simp (disch := first|omega|assumption|exact l_a rfl) only [go_sem, ↓wBk, simprocAttr])
  exact ⟨0, rfl, by omega, none, 0, rfl, S⟩
 clear S F hR
 rintro ρ h J hJ ⟨e1, e13, e14, i, e15, hi, Au, cu, e4, S⟩
 (try simp (disch := first|omega|assumption|exact l_a rfl) only [go_sem, ↓wBk, simprocAttr, e14, e15])
 refine cD (fun hlt => ?_) (fun hlt => ?_)
 ·have hil : i < C.os.length := by omega
  obtain ⟨b, off, hA, hr1⟩ := (r _ S.tl.tl).os.at hil
  have hmem := l_v hil
  have hs1 := ordsU_snoc hil
  have hrl := fun {h'} (S : St h0 h' l) => (r _ S).ls _ hmem
  have hO := hOk _ hmem
  have hul := unitsOf_len hO i
  have hlen := ordsU_len (os := C.os.take i) 0 fun o ho => hOk o (List.mem_of_mem_take ho)
  have hle := sumTake_le k3 i
  generalize C.os[i] = o at *
  generalize ordsU 0 (C.os.take i) = U at *
  have hcn := hO.cnt
  have ho8 := hO.n1
  (try simp (disch := first|omega|assumption|exact l_a rfl) only [go_sem, ↓wBk, simprocAttr, e13, e15, hA, hr1])
  (refine tA S ?_; clear S; intro q h S; (try simp only [sC, sN, l_h, l_i, Nat.zero_add, Nat.reduceAdd, l_j, l_k] at S); ((try clear F); have F := S.all; (try simp only [aC, aN, yC, and_true] at F)))
  (try simp (disch := first|omega|assumption|exact l_a rfl) only [go_sem, ↓wBk, simprocAttr, F, Odr.enc])
  (refine tS (by first | exact S | exact S.p1 | exact S.p2 | exact S.p3 | exact S.p4 | exact S.p5 | exact S.p6 | exact S.p7 | exact S.p8 | exact S.p9 | exact S.p10 | exact S.p11) (by rfl) (by rfl) (l_a rfl) ?_; clear S; intro h S; (try simp only [sC, sN, l_h, l_i, Nat.zero_add, Nat.reduceAdd, l_j, l_k] at S); ((try clear F); have F := S.all; (try simp only [aC, aN, yC, and_true] at F)))
  (try simp (disch := first|omega|assumption|exact l_a rfl) only [go_sem, ↓wBk, simprocAttr, e4, F])
  refine cI (units_ok o i hO (fun h' S => hrl S.tl.tl.tl) S) ?_
  clear S F hr1
  intro v h S
  obtain ⟨Av, cv, rfl⟩ := S.sl
  (try simp (disch := first|omega|assumption|exact l_a rfl) only [go_sem, ↓wBk, simprocAttr])
  refine tAp (bytes := 32) (ys := unitsOf o i) Unt.enc_len (by omega) Unt.enc_plain rfl S.p2 rfl (src_arr Unt.enc_len (S.arr Unt.enc_len) rfl) (by omega) (by omega) ?_
  clear S
  intro v h S
  rw [← hs1] at S
  obtain ⟨Au, cu, rfl⟩ := S.sl
  (try simp (disch := first|omega|assumption|exact l_a rfl) only [go_sem, ↓wBk, simprocAttr, e15])
  refine hJ _ _ ?_ ?_
  ·(try simp (disch := first|omega|assumption|exact l_a rfl) only [go_sem, ↓wBk, simprocAttr, e1, e13, e14, hA])
   exact ⟨i + 1, rfl, by omega, Au, cu, rfl, S.d1.d1⟩
  ·(try simp (disch := first|omega|assumption|exact l_a rfl) only [go_sem, ↓wBk, simprocAttr, e15])
   omega
 obtain rfl : i = C.os.length := by omega
 rw [l_aj] at e4 S
 have hlen := ordsU_len (os := C.os) 0 hOk
 clear hJ
 ((try clear F); have F := S.all; (try simp only [aC, aN, yC, and_true] at F))
 (try simp (disch := first|omega|assumption|exact l_a rfl) only [go_sem, ↓wBk, simprocAttr, e1, F, Cfg.enc])
 refine lI (fun ρ h' => ρ 27 = .slice C.A2 C.ss.length C.c2 ∧ ρ 28 = .int .i64 C.ss.length ∧ ∃ i : Nat, ρ 29 = .int .i64 i ∧ i ≤ C.ss.length ∧ ∃ (Au : Option Addr) (cu : Nat), ρ 4 = .slice Au (ordsU 0 C.os ++ (C.ss.take i).flatMap supU).length cu ∧
  St h0 h' (ownA Unt.enc 4 70 (.slice Au (ordsU 0 C.os ++ (C.ss.take i).flatMap supU).length cu) (ordsU 0 C.os ++ (C.ss.take i).flatMap supU) :: l)) (fun ρ _ => C.ss.length - (iv (ρ 29)).toNat) ?_ ?_
 ·(try simp (disch := first|omega|assumption|exact l_a rfl) only [go_sem, ↓wBk, simprocAttr])
  exact ⟨0, rfl, by omega, Au, cu, by simp [e4], by simpa using S.d1⟩
 clear S F e1 e13 e14 e15 e4
 rintro ρ h J hJ ⟨e27, e28, i, e29, hi, Au, cu, e4, S⟩
 (try simp (disch := first|omega|assumption|exact l_a rfl) only [go_sem, ↓wBk, simprocAttr, e28, e29])
 refine cD (fun hlt => ?_) (fun hlt => ?_)
 ·have hil : i < C.ss.length := by omega
  obtain ⟨b, off, hA, hr1⟩ := (r _ S.tl).ss.at hil
  have hs1 : ordsU 0 C.os ++ (C.ss.take (i + 1)).flatMap supU = (ordsU 0 C.os ++ (C.ss.take i).flatMap supU) ++ supU C.ss[i] := by rw [supU_snoc hil, l_q]
  have hx := k4.1 _ (l_v hil)
  have hl2 := supU_len (ss := C.ss.take i) fun s hs => k4.1 s (List.mem_of_mem_take hs)
  have hl3 := supTake_le k4.1 (i + 1)
  rw [supSum_snoc hil] at hl3
  generalize C.ss[i] = x at *
  obtain ⟨_, _, hx0, hx1⟩ := hx
  have hPl : ((ordsU 0 C.os ++ (C.ss.take i).flatMap supU).length : Int) + x.count ≤ 200 := by rw [l_m]; omega
  generalize ordsU 0 C.os ++ (C.ss.take i).flatMap supU = P at *
  (try simp (disch := first|omega|assumption|exact l_a rfl) only [go_sem, ↓wBk, simprocAttr, e27, e29, hA, hr1])
  (refine tA S ?_; clear S; intro q h S; (try simp only [sC, sN, l_h, l_i, Nat.zero_add, Nat.reduceAdd, l_j, l_k] at S); ((try clear F); have F := S.all; (try simp only [aC, aN, yC, and_true] at F)))
  (try simp (disch := first|omega|assumption|exact l_a rfl) only [go_sem, ↓wBk, simprocAttr, F, Sup.enc])
  (refine tS (by first | exact S | exact S.p1 | exact S.p2 | exact S.p3 | exact S.p4 | exact S.p5 | exact S.p6 | exact S.p7 | exact S.p8 | exact S.p9 | exact S.p10 | exact S.p11) (by rfl) (by rfl) (l_a rfl) ?_; clear S; intro h S; (try simp only [sC, sN, l_h, l_i, Nat.zero_add, Nat.reduceAdd, l_j, l_k] at S); ((try clear F); have F := S.all; (try simp only [aC, aN, yC, and_true] at F)))
  (try simp (disch := first|omega|assumption|exact l_a rfl) only [go_sem, ↓wBk, simprocAttr, F])
  refine lI (fun ρ' h' => ρ' 27 = ρ 27 ∧ ρ' 28 = ρ 28 ∧ ρ' 29 = ρ 29 ∧ ρ' 8 = .pointer (some ⟨q, 0, none⟩) ∧ ρ' 34 = .int .i64 x.count ∧ ∃ j : Nat, ρ' 35 = .int .i64 j ∧ j ≤ x.count.toNat ∧
   ∃ (Au : Option Addr) (cu : Nat), ρ' 4 = .slice Au (P.length + j) cu ∧
   St h0 h' (ownA Unt.enc 4 70 (.slice Au (P.length + j) cu) (P ++ List.replicate j ⟨-1, x.sku, 0, x.price⟩) :: cellA q x.enc 121 :: l)) (fun ρ' _ => x.count.toNat - (iv (ρ' 35)).toNat) ?_ ?_
  ·(try simp (disch := first|omega|assumption|exact l_a rfl) only [go_sem, ↓wBk, simprocAttr, e4])
   exact ⟨0, rfl, by omega, Au, cu, rfl, by simp only [List.replicate_zero, l_am, Nat.add_zero]; exact S.p1⟩
  have p27 := e27
  have p28 := e28
  have p29 := e29
  clear S F e27 e28 e29 e4 hr1
  rintro ρ' h J' hJ' ⟨e27, e28, e29, e8, e34, j, e35, hj, Au, cu, e4, S⟩
  (try simp (disch := first|omega|assumption|exact l_a rfl) only [go_sem, ↓wBk, simprocAttr, e34, e35])
  refine cD (fun hlt2 => ?_) (fun hlt2 => ?_)
  ·have hjl : j < x.count.toNat := by omega
   have er2 : P ++ List.replicate j (⟨-1, x.sku, 0, x.price⟩ : Unt) ++ [⟨-1, x.sku, 0, x.price⟩] = P ++ List.replicate (j + 1) ⟨-1, x.sku, 0, x.price⟩ := by rw [l_q, ← List.replicate_succ']
   have hll : (P ++ List.replicate j (⟨-1, x.sku, 0, x.price⟩ : Unt)).length = P.length + j := by rw [l_m, l_ah]
   have hll2 : (P ++ List.replicate (j + 1) (⟨-1, x.sku, 0, x.price⟩ : Unt)).length = P.length + (j + 1) := by rw [l_m, l_ah]
   ((try clear F); have F := S.all; (try simp only [aC, aN, yC, and_true] at F))
   (try simp (disch := first|omega|assumption|exact l_a rfl) only [go_sem, ↓wBk, simprocAttr, e8, F, Sup.enc, e4])
   (refine tA S ?_; clear S; intro r1 h S; (try simp only [sC, sN, l_h, l_i, Nat.zero_add, Nat.reduceAdd, l_j, l_k] at S); ((try clear F); have F := S.all; (try simp only [aC, aN, yC, and_true] at F)))
   (try simp (disch := first|omega|assumption|exact l_a rfl) only [go_sem, ↓wBk, simprocAttr])
   refine tA1 (bytes := 32) (x := (⟨-1, x.sku, 0, x.price⟩ : Unt)) Unt.enc_len (by omega) Unt.enc_plain rfl rfl S (by omega) (by omega) ?_
   clear S F
   intro v h S
   rw [er2] at S
   obtain ⟨Au, cu, rfl⟩ := S.sl
   rw [hll2] at S ⊢
   (try simp (disch := first|omega|assumption|exact l_a rfl) only [go_sem, ↓wBk, simprocAttr, e35])
   refine hJ' _ _ ?_ ?_
   ·(try simp (disch := first|omega|assumption|exact l_a rfl) only [go_sem, ↓wBk, simprocAttr, e27, e28, e29, e8, e34])
    exact ⟨j + 1, rfl, by omega, Au, cu, rfl, S⟩
   ·(try simp (disch := first|omega|assumption|exact l_a rfl) only [go_sem, ↓wBk, simprocAttr, e35])
    omega
  ·obtain rfl : j = x.count.toNat := by omega
   have hrp : P ++ List.replicate x.count.toNat (⟨-1, x.sku, 0, x.price⟩ : Unt) = P ++ supU x := rfl
   have hll : (P ++ supU x).length = P.length + x.count.toNat := by rw [l_m, supU, l_ah]
   rw [hrp] at S
   (try simp (disch := first|omega|assumption|exact l_a rfl) only [go_sem, ↓wBk, simprocAttr, e29, p29])
   refine hJ _ _ ?_ ?_
   ·(try simp (disch := first|omega|assumption|exact l_a rfl) only [go_sem, ↓wBk, simprocAttr, e27, p27, e28, p28])
    exact ⟨i + 1, rfl, by omega, Au, cu, by rw [hs1, hll]; exact e4, by rw [hs1, hll]; exact S.d1⟩
   ·(try simp (disch := first|omega|assumption|exact l_a rfl) only [go_sem, ↓wBk, simprocAttr, p29])
    omega
 obtain rfl : i = C.ss.length := by omega
 rw [l_aj] at e4 S
 (try simp (disch := first|omega|assumption|exact l_a rfl) only [go_sem, ↓wBk, simprocAttr, e4])
 exact hK _ _ (.inr ⟨hok, _, rfl, S⟩)
end
end
section
set_option maxHeartbeats 16000000
section
variable {h0 h : Heap} {l : List HP}
end
end
section
set_option maxHeartbeats 8000000
theorem unitsAll_len {C : Cfg} (hok : okCfg C) : ((unitsAll C).length : Int) = totOf C ∧ (unitsAll C).length ≤ 200 := by
 have h1 := ordsU_len (os := C.os) 0 hok.okO
 have h2 := supU_len hok.2.2.2.2.1.1
 have h3 := hok.2.2.2.2.2
 have ht : totOf C = ordSum C.os + supSum C.ss := rfl
 rw [unitsAll, l_m]
 omega
def c0C : Cfg := ⟨none, 0, [], none, 0, [], none, 0, []⟩
theorem c0_ok : okCfg c0C := ⟨⟨by decide, by simp [c0C]⟩, by decide, by decide, by simp [c0C], ⟨by simp [c0C], by simp [c0C]⟩, by decide⟩
end
section
set_option maxHeartbeats 8000000
section
variable {h0 h : Heap} {l : List HP}
end
def linB (l : Lin) : List UInt8 := le 2 l.sku ++ (le 1 l.cat ++ (le 8 l.price ++ le 1 l.count))
def odrB (o : Odr) : List UInt8 := le 4 o.day ++ (le 8 o.disc ++ (le 8 o.tax ++ (le 8 o.ship ++ (le 1 o.ls.length ++ o.ls.flatMap linB))))
def supB (s : Sup) : List UInt8 := le 2 s.sku ++ (le 8 s.price ++ le 1 s.count)
def encC (C : Cfg) : List UInt8 := (le 2 (encT C.ps).length ++ encT C.ps) ++ (le 1 C.os.length ++ (C.os.flatMap odrB ++ (le 1 C.ss.length ++ C.ss.flatMap supB)))
section
variable {h0 h : Heap} {l : List HP}
end
end
section
set_option maxHeartbeats 8000000
def Odr.pu (o : Odr) : Int × Int × Int × Int × List Lin := (o.day, o.disc, o.tax, o.ship, o.ls)
def Cfg.pu (C : Cfg) : List Pol × List Sup × List (Int × Int × Int × Int × List Lin) := (C.ps, C.ss, C.os.map Odr.pu)
end
section
set_option maxHeartbeats 8000000
abbrev Q := List UInt8 × Bool
noncomputable def vi (q : Q) : Int := IntKind.i64.wrap (vl 8 q)
noncomputable def bytesR (q : Q) : List UInt8 × Q := if (stp 2 q).2 = true ∨ (stp 2 q).1.length < (vl 2 q).toNat then ([], ([], true)) else ((stp 2 q).1.take (vl 2 q).toNat, ((stp 2 q).1.drop (vl 2 q).toNat, false))
noncomputable def pLin (q : Q) : Lin × Q := (⟨vl 2 q, vl 1 (stp 2 q), vi (stp 1 (stp 2 q)), vl 1 (stp 8 (stp 1 (stp 2 q)))⟩, stp 1 (stp 8 (stp 1 (stp 2 q))))
noncomputable def pSup (q : Q) : Sup × Q := (⟨vl 2 q, vi (stp 2 q), vl 1 (stp 8 (stp 2 q))⟩, stp 1 (stp 8 (stp 2 q)))
noncomputable def pMany {α : Type} (p : Q → α × Q) : Nat → Q → List α × Q
 | 0, q => ([], q)
 | n + 1, q => ((pMany p n q).1 ++ [(p (pMany p n q).2).1], (p (pMany p n q).2).2)
abbrev POd := Int × Int × Int × Int × List Lin
noncomputable def pOdr (q : Q) : POd × Q :=
 ((vl 4 q, vi (stp 4 q), vi (stp 8 (stp 4 q)), vi (stp 8 (stp 8 (stp 4 q))), (pMany pLin (vl 1 (stp 8 (stp 8 (stp 8 (stp 4 q))))).toNat (stp 1 (stp 8 (stp 8 (stp 8 (stp 4 q)))))).1),
  (pMany pLin (vl 1 (stp 8 (stp 8 (stp 8 (stp 4 q))))).toNat (stp 1 (stp 8 (stp 8 (stp 8 (stp 4 q)))))).2)
theorem pMany_len {α : Type} (p : Q → α × Q) (q : Q) : ∀ n, (pMany p n q).1.length = n
 | 0 => rfl
 | n + 1 => by rw [pMany, l_m, pMany_len p q n]; rfl
theorem vl1 (q : Q) : 0 ≤ vl 1 q ∧ vl 1 q < 256 := by have := rdV_nn 1 q.1 q.2; simpa [vl] using this
theorem vl2 (q : Q) : 0 ≤ vl 2 q ∧ vl 2 q < 65536 := by have := rdV_nn 2 q.1 q.2; simpa [vl] using this
section
variable {h0 h : Heap} {l : List HP} {i : Nat} {q : Q}
end
end
section
set_option maxHeartbeats 8000000
set_option maxRecDepth 20000
def oRow (o : Odr) : HP := ownA Lin.enc 4 125 (.slice o.A o.ls.length o.c) o.ls
theorem st_mem {h0 h : Heap} {L : List HP} {X : HP} (S : St h0 h L) (hx : X ∈ L) : ∃ M, St h0 h (X :: M) := by
 obtain ⟨a, b, rfl⟩ := List.append_of_mem hx
 exact ⟨_, S.perm List.perm_middle⟩
theorem rows_arr {h0 h : Heap} {L l : List HP} {os : List Odr} (S : St h0 h (L ++ (os.map oRow ++ l))) : ∀ o ∈ os, Arr Lin.enc 4 h o.A o.ls ∧ o.ls.length ≤ o.c ∧ o.c < 9223372036854775808 := fun o ho => by
 obtain ⟨M, S⟩ := st_mem S (X := oRow o) (List.mem_append_right _ (List.mem_append_left _ (l_ai ho)))
 obtain ⟨_, h1, h2⟩ := S.cap
 exact ⟨S.arr Lin.enc_len, h1, h2⟩
theorem okOrder_pu {k : Int} {x y : Odr} (h : x.pu = y.pu) : okOrder k x → okOrder k y := by
 obtain ⟨a1, A1, c1, l1, d1, t1, s1⟩ := x
 obtain ⟨a2, A2, c2, l2, d2, t2, s2⟩ := y
 simp only [Odr.pu, Prod.mk.injEq] at h
 obtain ⟨rfl, rfl, rfl, rfl, rfl⟩ := h
 exact id
theorem ordSum_pu : ∀ {xs ys : List Odr}, xs.map Odr.pu = ys.map Odr.pu → ordSum xs = ordSum ys
 | [], [], _ => rfl
 | x :: xs, y :: ys, h => by
  simp only [List.map_cons, List.cons.injEq] at h
  have h1 := ordSum_pu h.2
  have h2 : x.ls = y.ls := congrArg (fun z => z.2.2.2.2) h.1
  simp only [ordSum, List.map_cons, List.sum_cons, h2] at h1 ⊢
  rw [h1]
 | [], y :: ys, h => by simp at h
 | x :: xs, [], h => by simp at h
theorem okCfg_pu {C D : Cfg} (h : C.pu = D.pu) (hok : okCfg C) : okCfg D := by
 have h1 : C.ps = D.ps := congrArg (fun z => z.1) h
 have h2 : C.ss = D.ss := congrArg (fun z => z.2.1) h
 have h3 : C.os.map Odr.pu = D.os.map Odr.pu := congrArg (fun z => z.2.2) h
 have hl : C.os.length = D.os.length := by have := congrArg List.length h3; simpa using this
 obtain ⟨k0, k1, k2, k3, k4, k5⟩ := hok
 refine ⟨h1 ▸ k0, by omega, by rw [← h2]; exact k2, fun o ho => ?_, h2 ▸ k4, ?_⟩
 ·have : o.pu ∈ C.os.map Odr.pu := by rw [h3]; exact l_ai ho
  obtain ⟨x, hx, e⟩ := List.mem_map.1 this
  rw [← h1]
  exact okOrder_pu e (k3 x hx)
 ·have e1 : totOf C = ordSum C.os + supSum C.ss := rfl
  have e2 : totOf D = ordSum D.os + supSum D.ss := rfl
  rw [e2, ← ordSum_pu h3, ← h2, ← e1]
  exact k5
noncomputable def decO (b : List UInt8) : List POd × Q := pMany pOdr (vl 1 (bytesR (b, false)).2).toNat (stp 1 (bytesR (b, false)).2)
noncomputable def decS (b : List UInt8) : List Sup × Q := pMany pSup (vl 1 (decO b).2).toNat (stp 1 (decO b).2)
def Reads (b : List UInt8) (C : Cfg) : Prop := okCfg C ∧ encT C.ps = (bytesR (b, false)).1 ∧ C.os.map Odr.pu = (decO b).1 ∧ C.ss = (decS b).1 ∧ (decS b).2 = ([], false)
section
variable {h0 h : Heap} {l : List HP}
end
end
end Go.Proofs.YtijnkebgciaieaaGreat.MX
