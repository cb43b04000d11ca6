/- Texts in one file: Od6. -/
import Derived.Test.YtblalmgahfbalaaGreatK21

/- Orders: an order's units. -/
namespace Go.Proofs.YtblalmgahfbalaaGreat.MX
open Go Go.Proofs
set_option linter.unusedSimpArgs false
set_option linter.unusedVariables false
set_option maxHeartbeats 8000000
theorem expandU_snoc (i : Int) {ls : List Lin} {k : Nat} (hk : k < ls.length) : expandU i (ls.take (k + 1)) = expandU i (ls.take k) ++ linU i ls[k] := by
  rw [List.take_succ_eq_append_getElem hk, expandU, List.flatMap_append]
  simp [expandU]
theorem priceL_snoc {ls : List Lin} {k : Nat} (hk : k < ls.length) : priceL (ls.take (k + 1)) = priceL (ls.take k) ++ linP ls[k] := by
  rw [List.take_succ_eq_append_getElem hk, priceL, List.flatMap_append]
  simp [priceL]
theorem cntTake_le {k : Int} {ls : List Lin} (h : ∀ l ∈ ls, okLine k l) (i : Nat) : cntOf (ls.take i) ≤ cntOf ls := by
  have h1 := all_bound (k := k) (ls := ls.drop i) fun l hl => h l (List.mem_of_mem_drop hl)
  have : cntOf ls = cntOf (ls.take i) + cntOf (ls.drop i) := by
    conv => lhs; rw [← List.take_append_drop i ls]
    rw [cntOf, List.map_append, List.sum_append]; rfl
  omega
section
variable {h0 h : Heap} {l : List HP}
theorem own_part {α : Type} {enc : α → List Value} {sz T b n c : Nat} {D : List α} (hsz : ∀ x, (enc x).length = sz) (S : St h0 h (ownA enc sz T (.slice (some ⟨b, 0, none⟩) n c) D :: l)) {i j : Nat} (hi : i < D.length) (hj : j < sz) : rd1 h (.pointer (some ⟨b, i * sz + j, none⟩)) = (enc D[i])[j]? := by
  obtain ⟨b', o', hA, hr⟩ := S.arr hsz i hi
  cases hA
  have := rd1_part hr j hj
  simpa using this
theorem units_ok (o : Odr) (num : Int) (ok : OkO o) (ha : ∀ h', St h0 h' l → Arr Lin.enc 4 h' o.A o.ls) (S : St h0 h l) :
    CallsH Tryz.prog 45 [.agg o.enc.toArray, .int .i64 num] h fun v h' => St h0 h' (ownA Unt.enc 4 76 v (unitsOf o num) :: l) := by
  obtain ⟨kk, hlk⟩ := ok.ls
  have hn0 := ok.n0
  have hn1 := ok.n1
  have hcnt := ok.cnt
  (refine enterK c_order_units (Nat.le_of_ble_eq_true rfl) fun K hK => ?_; (try simp (maxSteps := 1000000) (disch := first | omega | assumption | exact Nat.le_of_ble_eq_true rfl) only [go_sem, ↓mwp_block, simprocAttr, ir_order_units]))
  (refine st_alloc S ?_; clear S; intro g h S; (try simp only [splice_cons, splice_nil, List.set_cons_zero, List.set_cons_succ, Nat.zero_add, Nat.reduceAdd, List.cons_append, List.nil_append] at S); ((try clear F); have F := S.all; (try simp only [all_cons, all_nil, says_cell, and_true] at F)))
  have S : St h0 h (ownA zEnc 1 2 (.slice none 0 0) [] :: ownA Unt.enc 4 76 (.slice none 0 0) [] :: cellA g o.enc 66 :: l) := S.nilS.nilS
  (try simp (maxSteps := 1000000) (disch := first | omega | assumption | exact Nat.le_of_ble_eq_true rfl) only [go_sem, ↓mwp_block, simprocAttr, F, Odr.enc])
  refine loop_intro (fun ρ h' => ρ 1 = .int .i64 num ∧ ρ 2 = .pointer (some ⟨g, 0, none⟩) ∧ ρ 16 = .slice o.A o.ls.length o.c ∧ ρ 17 = .int .i64 o.ls.length ∧ ∃ i : Nat, ρ 18 = .int .i64 i ∧ i ≤ o.ls.length ∧
    ∃ (Ap Au : Option Addr) (cp cu : Nat), ρ 6 = .slice Ap (priceL (o.ls.take i)).length cp ∧ ρ 5 = .slice Au (priceL (o.ls.take i)).length cu ∧
    St h0 h' (ownA zEnc 1 2 (.slice Ap (priceL (o.ls.take i)).length cp) (priceL (o.ls.take i)) :: ownA Unt.enc 4 76 (.slice Au (priceL (o.ls.take i)).length cu) (expandU num (o.ls.take i)) :: cellA g o.enc 66 :: l)) (fun ρ _ => o.ls.length - (iv (ρ 18)).toNat) ?_ ?_
  · (try simp (maxSteps := 1000000) (disch := first | omega | assumption | exact Nat.le_of_ble_eq_true rfl) only [go_sem, ↓mwp_block, simprocAttr])
    exact ⟨0, rfl, by omega, none, none, 0, 0, rfl, rfl, S⟩
  clear S F
  rintro ρ h J hJ ⟨e1, e2, e16, e17, i, e18, hi, Ap, Au, cp, cu, e6, e5, S⟩
  (try simp (maxSteps := 1000000) (disch := first | omega | assumption | exact Nat.le_of_ble_eq_true rfl) only [go_sem, ↓mwp_block, simprocAttr, e17, e18])
  refine cond_dec (fun hlt => ?_) (fun hlt => ?_)
  · have hil : i < o.ls.length := by omega
    obtain ⟨b, off, hA, hr1⟩ := (ha h S.tl.tl.tl).at hil
    have hs1 := expandU_snoc num hil
    have hs2 := priceL_snoc hil
    have hct := cntTake_le hlk (i + 1)
    have hc1 := cntOf_snoc hil
    have hpl := (len_sum (o.ls.take i) fun x hx => ok.count x (List.mem_of_mem_take hx)).1
    have hul := ((len_sum (o.ls.take i) fun x hx => ok.count x (List.mem_of_mem_take hx)).2.2 num).1
    have hx := hlk _ (List.getElem_mem hil)
    generalize o.ls[i] = x at *
    obtain ⟨⟨_, ⟨hp0, hp1⟩, hx0, hx1⟩, _⟩ := hx
    generalize hP : priceL (o.ls.take i) = P at *
    generalize hU : expandU num (o.ls.take i) = U at *
    (try simp (maxSteps := 1000000) (disch := first | omega | assumption | exact Nat.le_of_ble_eq_true rfl) only [go_sem, ↓mwp_block, simprocAttr, e16, e18, hA, hr1])
    (refine st_alloc S ?_; clear S; intro q h S; (try simp only [splice_cons, splice_nil, List.set_cons_zero, List.set_cons_succ, Nat.zero_add, Nat.reduceAdd, List.cons_append, List.nil_append] at S); ((try clear F); have F := S.all; (try simp only [all_cons, all_nil, says_cell, and_true] at F)))
    (try simp (maxSteps := 1000000) (disch := first | omega | assumption | exact Nat.le_of_ble_eq_true rfl) only [go_sem, ↓mwp_block, simprocAttr, F, Lin.enc])
    (refine st_store (by first | exact S | exact S.p1 | exact S.p2 | exact S.p3 | exact S.p4 | exact S.p5 | exact S.p6 | exact S.p7 | exact S.p8 | exact S.p9 | exact S.p10 | exact S.p11) (by rfl) (by rfl) (Nat.le_of_ble_eq_true rfl) ?_; clear S; intro h S; (try simp only [splice_cons, splice_nil, List.set_cons_zero, List.set_cons_succ, Nat.zero_add, Nat.reduceAdd, List.cons_append, List.nil_append] at S); ((try clear F); have F := S.all; (try simp only [all_cons, all_nil, says_cell, and_true] at F)))
    (try simp (maxSteps := 1000000) (disch := first | omega | assumption | exact Nat.le_of_ble_eq_true rfl) only [go_sem, ↓mwp_block, simprocAttr, F])
    have hadd : ∀ j : Nat, j ≤ x.count.toNat → (P ++ List.replicate j x.price).length ≤ 200 := fun j hj => by rw [List.length_append, List.length_replicate]; omega
    refine loop_intro (fun ρ' h' => ρ' 1 = .int .i64 num ∧ ρ' 2 = .pointer (some ⟨g, 0, none⟩) ∧ ρ' 16 = .slice o.A o.ls.length o.c ∧ ρ' 17 = .int .i64 o.ls.length ∧ ρ' 18 = .int .i64 i ∧ ρ' 8 = .pointer (some ⟨q, 0, none⟩) ∧ ρ' 23 = .int .i64 x.count ∧ ∃ j : Nat, ρ' 24 = .int .i64 j ∧ j ≤ x.count.toNat ∧
      ∃ (Ap Au : Option Addr) (cp cu : Nat), ρ' 6 = .slice Ap (P ++ List.replicate j x.price).length cp ∧ ρ' 5 = .slice Au (P ++ List.replicate j x.price).length cu ∧
      St h0 h' (ownA zEnc 1 2 (.slice Ap (P ++ List.replicate j x.price).length cp) (P ++ List.replicate j x.price) :: ownA Unt.enc 4 76 (.slice Au (P ++ List.replicate j x.price).length cu) (U ++ List.replicate j ⟨num, x.sku, x.cat, x.price⟩) :: cellA q x.enc 69 :: cellA g o.enc 66 :: l)) (fun ρ' _ => x.count.toNat - (iv (ρ' 24)).toNat) ?_ ?_
    · (try simp (maxSteps := 1000000) (disch := first | omega | assumption | exact Nat.le_of_ble_eq_true rfl) only [go_sem, ↓mwp_block, simprocAttr, e1, e2, e16, e17, e18, e5, e6])
      exact ⟨0, rfl, by omega, Ap, Au, cp, cu, by simp, by simp, by simp only [List.replicate_zero, List.append_nil]; exact S.p2.p2⟩
    have p18 := e18
    clear S F e1 e2 e16 e17 e18 e6 e5 hr1
    rintro ρ' h J' hJ' ⟨e1, e2, e16, e17, e18, e8, e23, j, e24, hj, Ap, Au, cp, cu, e6, e5, S⟩
    (try simp (maxSteps := 1000000) (disch := first | omega | assumption | exact Nat.le_of_ble_eq_true rfl) only [go_sem, ↓mwp_block, simprocAttr, e23, e24])
    refine cond_dec (fun hlt2 => ?_) (fun hlt2 => ?_)
    · have hjl : j < x.count.toNat := by omega
      have hl1 := hadd (j + 1) (by omega)
      have hl0 := hadd j (by omega)
      have er1 : P ++ List.replicate j x.price ++ [x.price] = P ++ List.replicate (j + 1) x.price := by rw [List.append_assoc, ← List.replicate_succ']
      have er2 : U ++ List.replicate j (⟨num, x.sku, x.cat, x.price⟩ : Unt) ++ [⟨num, x.sku, x.cat, x.price⟩] = U ++ List.replicate (j + 1) ⟨num, x.sku, x.cat, x.price⟩ := by rw [List.append_assoc, ← List.replicate_succ']
      have hll : (U ++ List.replicate j (⟨num, x.sku, x.cat, x.price⟩ : Unt)).length = (P ++ List.replicate j x.price).length := by rw [List.length_append, List.length_append, List.length_replicate, List.length_replicate]; omega
      have hll2 : (P ++ List.replicate j x.price).length + 1 = (P ++ List.replicate (j + 1) x.price).length := by rw [List.length_append, List.length_append, List.length_replicate, List.length_replicate]; omega
      ((try clear F); have F := S.all; (try simp only [all_cons, all_nil, says_cell, and_true] at F))
      (try simp (maxSteps := 1000000) (disch := first | omega | assumption | exact Nat.le_of_ble_eq_true rfl) only [go_sem, ↓mwp_block, simprocAttr, e1, e8, F, Lin.enc, e5])
      (refine st_alloc S ?_; clear S; intro r1 h S; (try simp only [splice_cons, splice_nil, List.set_cons_zero, List.set_cons_succ, Nat.zero_add, Nat.reduceAdd, List.cons_append, List.nil_append] at S); ((try clear F); have F := S.all; (try simp only [all_cons, all_nil, says_cell, and_true] at F)))
      (try simp (maxSteps := 1000000) (disch := first | omega | assumption | exact Nat.le_of_ble_eq_true rfl) only [go_sem, ↓mwp_block, simprocAttr])
      refine st_append1 (bytes := 32) (x := (⟨num, x.sku, x.cat, x.price⟩ : Unt)) Unt.enc_len (by omega) Unt.enc_plain rfl rfl S.p2.p1 (by omega) (by omega) ?_
      clear S F
      intro v h S
      rw [er2] at S
      obtain ⟨Au, cu, rfl⟩ := S.sl
      rw [show (U ++ List.replicate (j + 1) (⟨num, x.sku, x.cat, x.price⟩ : Unt)).length = (P ++ List.replicate (j + 1) x.price).length by rw [← hll2, ← hll, ← er2, List.length_append]; rfl] at S ⊢
      ((try clear F); have F := S.all; (try simp only [all_cons, all_nil, says_cell, and_true] at F))
      (try simp (maxSteps := 1000000) (disch := first | omega | assumption | exact Nat.le_of_ble_eq_true rfl) only [go_sem, ↓mwp_block, simprocAttr, e6, e8, F, Lin.enc])
      (refine st_alloc S ?_; clear S; intro r2 h S; (try simp only [splice_cons, splice_nil, List.set_cons_zero, List.set_cons_succ, Nat.zero_add, Nat.reduceAdd, List.cons_append, List.nil_append] at S); ((try clear F); have F := S.all; (try simp only [all_cons, all_nil, says_cell, and_true] at F)))
      (try simp (maxSteps := 1000000) (disch := first | omega | assumption | exact Nat.le_of_ble_eq_true rfl) only [go_sem, ↓mwp_block, simprocAttr])
      refine st_append1 (bytes := 8) (x := x.price) zEnc_len (by omega) zEnc_plain rfl rfl S.p2.p1 (by omega) (by omega) ?_
      clear S F
      intro v h S
      rw [er1] at S
      obtain ⟨Ap, cp, rfl⟩ := S.sl
      (try simp (maxSteps := 1000000) (disch := first | omega | assumption | exact Nat.le_of_ble_eq_true rfl) only [go_sem, ↓mwp_block, simprocAttr, e24])
      refine hJ' _ _ ?_ ?_
      · (try simp (maxSteps := 1000000) (disch := first | omega | assumption | exact Nat.le_of_ble_eq_true rfl) only [go_sem, ↓mwp_block, simprocAttr, e1, e2, e16, e17, e18, e8, e23])
        exact ⟨j + 1, rfl, by omega, Ap, Au, cp, cu, rfl, rfl, S⟩
      · (try simp (maxSteps := 1000000) (disch := first | omega | assumption | exact Nat.le_of_ble_eq_true rfl) only [go_sem, ↓mwp_block, simprocAttr, e24])
        omega
    · obtain rfl : j = x.count.toNat := by omega
      (try simp (maxSteps := 1000000) (disch := first | omega | assumption | exact Nat.le_of_ble_eq_true rfl) only [go_sem, ↓mwp_block, simprocAttr, e18])
      refine hJ _ _ ?_ ?_
      · (try simp (maxSteps := 1000000) (disch := first | omega | assumption | exact Nat.le_of_ble_eq_true rfl) only [go_sem, ↓mwp_block, simprocAttr, e1, e2, e16, e17, hA])
        exact ⟨i + 1, rfl, by omega, Ap, Au, cp, cu, by rw [e6, hs2]; rfl, by rw [e5, hs2]; rfl, by rw [hs1, hs2]; exact S.p2.tl⟩
      · (try simp (maxSteps := 1000000) (disch := first | omega | assumption | exact Nat.le_of_ble_eq_true rfl) only [go_sem, ↓mwp_block, simprocAttr, p18])
        omega
  obtain rfl : i = o.ls.length := by omega
  rw [List.take_length] at S e6 e5
  clear hJ
  ((try clear F); have F := S.all; (try simp only [all_cons, all_nil, says_cell, and_true] at F))
  have hpl := (len_sum o.ls ok.count).1
  have hul := ((len_sum o.ls ok.count).2.2 num).1
  (try simp (maxSteps := 1000000) (disch := first | omega | assumption | exact Nat.le_of_ble_eq_true rfl) only [go_sem, ↓mwp_block, simprocAttr, e2, F, Odr.enc, zerosL])
  (refine st_alloc S ?_; clear S; intro t h S; (try simp only [splice_cons, splice_nil, List.set_cons_zero, List.set_cons_succ, Nat.zero_add, Nat.reduceAdd, List.cons_append, List.nil_append] at S); ((try clear F); have F := S.all; (try simp only [all_cons, all_nil, says_cell, and_true] at F)))
  obtain ⟨n, hn⟩ : ∃ n, (priceL o.ls).length = n := ⟨_, rfl⟩
  rw [hn] at e5 e6 S hul
  have hnn : n ≤ 200 ∧ 0 < n := by
    have := all_bound hlk
    omega
  (try simp (maxSteps := 1000000) (disch := first | omega | assumption | exact Nat.le_of_ble_eq_true rfl) only [go_sem, ↓mwp_block, simprocAttr])
  refine loop_intro (fun ρ' h' => ρ' 5 = .slice Au n cu ∧ ρ' 6 = .slice Ap n cp ∧ ρ' 53 = .slice (some ⟨t, 0, none⟩) 3 3 ∧ ρ' 54 = .int .i64 3 ∧ ∃ r : Nat, ρ' 55 = .int .i64 r ∧ r ≤ 3 ∧
    St h0 h' (cellA t [.int .i64 o.disc, .int .i64 (-1), .int .i64 o.tax, .int .i64 1, .int .i64 o.ship, .int .i64 1] 138 :: ownA zEnc 1 2 (.slice Ap n cp) (priceL o.ls) :: ownA Unt.enc 4 76 (.slice Au n cu) (unitsR o num r) :: cellA g o.enc 66 :: l)) (fun ρ' _ => 3 - (iv (ρ' 55)).toNat) ?_ ?_
  · (try simp (maxSteps := 1000000) (disch := first | omega | assumption | exact Nat.le_of_ble_eq_true rfl) only [go_sem, ↓mwp_block, simprocAttr, e5, e6])
    exact ⟨0, rfl, by omega, S⟩
  clear S F e1 e2 e16 e17 e18 e6 e5
  rintro ρ h J hJ ⟨e5, e6, e53, e54, r, e55, hr, S⟩
  (try simp (maxSteps := 1000000) (disch := first | omega | assumption | exact Nat.le_of_ble_eq_true rfl) only [go_sem, ↓mwp_block, simprocAttr, e54, e55])
  refine cond_dec (fun hlt => ?_) (fun hlt => ?_)
  case refine_2 =>
    obtain rfl : r = 3 := by omega
    (try simp (maxSteps := 1000000) (disch := first | omega | assumption | exact Nat.le_of_ble_eq_true rfl) only [go_sem, ↓mwp_block, simprocAttr, e5])
    exact hK _ _ (S.p2.d1.d1.d1)
  have hr3 : r < 3 := by omega
  have hps : rdN h t (r * 2) 2 = some [.int .i64 (psum o r), .int .i64 (psgn r)] := by
    rw [st_rdN S (by simp only [List.length_cons, List.length_nil]; omega)]
    match r, hr3 with
    | 0, _ => rfl
    | 1, _ => rfl
    | 2, _ => rfl
  have hop := ok.okp r
  have hask := ok.ask hop
  obtain ⟨hs1, hs2, hs3⟩ := ok.sh r
  have hrl := unitsR_len ok num r
  have hrb := unitsR_bound ok num r
  have hsucc : unitsR o num (r + 1) = addS (psgn r) (shF (psum o r).toNat (priceL o.ls)) (unitsR o num r) := rfl
  have hsg := psgn_cases r
  have hpi := shF_is (psum o r).toNat (priceL o.ls)
  rw [hn] at hs1 hrl
  generalize shF (psum o r).toNat (priceL o.ls) = sh at *
  generalize unitsR o num r = U at *
  generalize psum o r = su at *
  generalize psgn r = sg at *
  (try simp (maxSteps := 1000000) (disch := first | omega | assumption | exact Nat.le_of_ble_eq_true rfl) only [go_sem, ↓mwp_block, simprocAttr, e53, e55, hps])
  (refine st_alloc S ?_; clear S; intro p h S; (try simp only [splice_cons, splice_nil, List.set_cons_zero, List.set_cons_succ, Nat.zero_add, Nat.reduceAdd, List.cons_append, List.nil_append] at S); ((try clear F); have F := S.all; (try simp only [all_cons, all_nil, says_cell, and_true] at F)))
  (try simp (maxSteps := 1000000) (disch := first | omega | assumption | exact Nat.le_of_ble_eq_true rfl) only [go_sem, ↓mwp_block, simprocAttr, F])
  (refine st_store (by first | exact S | exact S.p1 | exact S.p2 | exact S.p3 | exact S.p4 | exact S.p5 | exact S.p6 | exact S.p7 | exact S.p8 | exact S.p9 | exact S.p10 | exact S.p11) (by rfl) (by rfl) (Nat.le_of_ble_eq_true rfl) ?_; clear S; intro h S; (try simp only [splice_cons, splice_nil, List.set_cons_zero, List.set_cons_succ, Nat.zero_add, Nat.reduceAdd, List.cons_append, List.nil_append] at S); ((try clear F); have F := S.all; (try simp only [all_cons, all_nil, says_cell, and_true] at F)))
  (try simp (maxSteps := 1000000) (disch := first | omega | assumption | exact Nat.le_of_ble_eq_true rfl) only [go_sem, ↓mwp_block, simprocAttr, F, e6])
  have hsh := SharesA_ok (c := cp) (A := Ap) su (priceL o.ls) (fun h' S => S.p2.arr zEnc_len) (by omega) S
  rw [hn] at hsh
  refine call_intro hsh ?_
  clear S F hsh hps
  rintro _ h (⟨hx, _⟩ | ⟨_, s, out, rfl, hI, hlo, S⟩)
  · exact (hx hask).elim
  have := hI.unique hpi
  subst this
  clear hI hpi
  obtain ⟨As, cs, rfl⟩ := S.sl
  rw [hs1] at S ⊢
  obtain ⟨bs, rfl⟩ := S.ownAt (by omega)
  obtain ⟨bu, rfl⟩ := S.p4.ownAt (by omega)
  have hXl : (addS sg out U).length = U.length := addS_len (by omega)
  (try simp (maxSteps := 1000000) (disch := first | omega | assumption | exact Nat.le_of_ble_eq_true rfl) only [go_sem, ↓mwp_block, simprocAttr])
  refine loop_intro (fun ρ' h' => ρ' 5 = .slice (some ⟨bu, 0, none⟩) n cu ∧ ρ' 6 = ρ 6 ∧ ρ' 53 = ρ 53 ∧ ρ' 54 = ρ 54 ∧ ρ' 55 = ρ 55 ∧ ρ' 10 = .pointer (some ⟨p, 0, none⟩) ∧ ρ' 66 = .slice (some ⟨bs, 0, none⟩) n cs ∧ ρ' 67 = .int .i64 n ∧ ∃ k : Nat, ρ' 68 = .int .i64 k ∧ k ≤ n ∧
    St h0 h' (ownA Unt.enc 4 76 (.slice (some ⟨bu, 0, none⟩) n cu) ((addS sg out U).take k ++ U.drop k) :: ownA zEnc 1 2 (.slice (some ⟨bs, 0, none⟩) n cs) out :: cellA p [.int .i64 su, .int .i64 sg] 138 ::
      cellA t [.int .i64 o.disc, .int .i64 (-1), .int .i64 o.tax, .int .i64 1, .int .i64 o.ship, .int .i64 1] 138 :: ownA zEnc 1 2 (.slice Ap n cp) (priceL o.ls) :: cellA g o.enc 66 :: l)) (fun ρ' _ => n - (iv (ρ' 68)).toNat) ?_ ?_
  · (try simp (maxSteps := 1000000) (disch := first | omega | assumption | exact Nat.le_of_ble_eq_true rfl) only [go_sem, ↓mwp_block, simprocAttr, e5])
    refine ⟨0, rfl, by omega, ?_⟩
    have := S.p4
    simpa using this
  have p5 := e5
  have p6 := e6
  have p53 := e53
  have p54 := e54
  have p55 := e55
  clear S e5 e6 e53 e54 e55
  rintro ρ' h J' hJ' ⟨e5, e6, e53, e54, e55, e10, e66, e67, k, e68, hk, S⟩
  (try simp (maxSteps := 1000000) (disch := first | omega | assumption | exact Nat.le_of_ble_eq_true rfl) only [go_sem, ↓mwp_block, simprocAttr, e67, e68])
  refine cond_dec (fun hlt2 => ?_) (fun hlt2 => ?_)
  · have hkn : k < n := by omega
    have hml := mid_len (addS sg out U) U hXl k
    have hrs := own_rd S.p1 (i := k) (List.getElem?_eq_getElem (by omega))
    have hru := own_part Unt.enc_len S (i := k) (j := 3) (by omega) (by omega)
    rw [mid_get _ _ hXl (by omega)] at hru
    have hrg := st_rd1 (off := 1) S.p2
    simp only [List.getElem?_cons_succ, List.getElem?_cons_zero] at hrg
    have hsb := hs3 _ (List.getElem_mem (l := out) (n := k) (by omega))
    have hub := hrb _ (List.getElem_mem (l := U) (n := k) (by omega))
    have hXk : (addS sg out U)[k]'(by omega) = { (U[k]'(by omega)) with share := (U[k]'(by omega)).share + sg * out[k]'(by omega) } := by simp only [addS, List.getElem_zipWith]
    have hset := set_mid (addS sg out U) U hXl (k := k) (by omega)
    rw [hXk] at hset
    have hmg := mid_get (addS sg out U) U hXl (k := k) (by omega)
    generalize out[k]'(by omega) = s at *
    generalize hu : U[k]'(by omega) = u at *
    simp only [Unt.enc, List.getElem?_cons_succ, List.getElem?_cons_zero] at hru
    have w1 : IntKind.i64.wrap (sg * s) = sg * s := by
      rcases hsg with rfl | rfl <;> exact wrap_i64 (by omega) (by omega)
    have w2 : IntKind.i64.wrap (u.share + sg * s) = u.share + sg * s := by
      rcases hsg with rfl | rfl <;> exact wrap_i64 (by omega) (by omega)
    (try simp (maxSteps := 1000000) (disch := first | omega | assumption | exact Nat.le_of_ble_eq_true rfl) only [go_sem, ↓mwp_block, simprocAttr, e66, e68, hrs])
    refine draw_eq ?_
    (try simp (maxSteps := 1000000) (disch := first | omega | assumption | exact Nat.le_of_ble_eq_true rfl) only [go_sem, ↓mwp_block, simprocAttr, e5, e68, e10, hru, hrg, hrs, w1, w2])
    refine st_setPart Unt.enc_len (i := k) (j := 3) (x := { u with share := u.share + sg * s }) S (by omega) (by omega) (Nat.le_refl 4) rfl rfl (by rw [hmg]; rfl) ?_
    clear S hru hrg hrs
    intro h S
    rw [hset] at S
    (try simp (maxSteps := 1000000) (disch := first | omega | assumption | exact Nat.le_of_ble_eq_true rfl) only [go_sem, ↓mwp_block, simprocAttr, e68])
    refine hJ' _ _ ?_ ?_
    · (try simp (maxSteps := 1000000) (disch := first | omega | assumption | exact Nat.le_of_ble_eq_true rfl) only [go_sem, ↓mwp_block, simprocAttr, e5, e6, e53, e54, e55, e10, e66, e67])
      exact ⟨k + 1, rfl, by omega, S⟩
    · (try simp (maxSteps := 1000000) (disch := first | omega | assumption | exact Nat.le_of_ble_eq_true rfl) only [go_sem, ↓mwp_block, simprocAttr, e68])
      omega
  · obtain rfl : k = n := by omega
    rw [List.take_of_length_le (by omega), List.drop_of_length_le (by omega), List.append_nil, ← hsucc] at S
    (try simp (maxSteps := 1000000) (disch := first | omega | assumption | exact Nat.le_of_ble_eq_true rfl) only [go_sem, ↓mwp_block, simprocAttr, e55, p55])
    refine hJ _ _ ?_ ?_
    · (try simp (maxSteps := 1000000) (disch := first | omega | assumption | exact Nat.le_of_ble_eq_true rfl) only [go_sem, ↓mwp_block, simprocAttr, e5, p5, e6, p6, e53, p53, e54, p54])
      exact ⟨r + 1, rfl, by omega, S.d1.d1.p2.p2⟩
    · (try simp (maxSteps := 1000000) (disch := first | omega | assumption | exact Nat.le_of_ble_eq_true rfl) only [go_sem, ↓mwp_block, simprocAttr, p55])
      omega
end
end Go.Proofs.YtblalmgahfbalaaGreat.MX
