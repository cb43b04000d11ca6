/- Texts in one file: Od8, Od9. -/
import Derived.Test.YtblalmgahfbalaaGreatK23

/- Orders: the reference's units. -/
namespace Go.Proofs.YtblalmgahfbalaaGreat.MX
open Go Go.Proofs
set_option linter.unusedSimpArgs false
set_option linter.unusedVariables false
set_option maxHeartbeats 16000000
theorem unitsOf_at {o : Odr} (h : OkO o) (i : Int) {k : Nat} (hk : k < (expandU i o.ls).length) (h1 : k < (shF o.disc.toNat (priceL o.ls)).length) (h2 : k < (shF o.tax.toNat (priceL o.ls)).length) (h3 : k < (shF o.ship.toNat (priceL o.ls)).length) (h4 : k < (unitsOf o i).length) :
    (unitsOf o i)[k] = { (expandU i o.ls)[k] with share := (expandU i o.ls)[k].share - (shF o.disc.toNat (priceL o.ls))[k] + (shF o.tax.toNat (priceL o.ls))[k] + (shF o.ship.toNat (priceL o.ls))[k] } := by
  simp only [unitsOf, unitsR, addS, List.getElem_zipWith, psum, psgn]
  congr 1
  omega
section
variable {h0 h : Heap} {l : List HP}
theorem RUnits_ok (C : Cfg) (r : ∀ h', St h0 h' l → C.rd h') (hok : okCfg C) (S : St h0 h l) :
    CallsH Tryz.prog 10 [.agg C.enc.toArray] h fun v h' => St h0 h' (ownA Unt.enc 4 42 v (unitsAll C) :: l) := by
  obtain ⟨_, k1, k2, k3, k4, k5⟩ := id hok
  have hOk := hok.okO
  have ht : totOf C = ordSum C.os + supSum C.ss := rfl
  have hob := ord_bound k3
  have hsb := sup_bound k4.1
  (refine enterK c_recoupref05_Units (Nat.le_of_ble_eq_true rfl) fun K hK => ?_; (try simp (maxSteps := 1000000) (disch := first | omega | assumption | exact Nat.le_of_ble_eq_true rfl) only [go_sem, ↓mwp_block, simprocAttr, ir_recoupref05_Units]))
  (refine st_alloc S ?_; clear S; intro g h S; (try simp only [splice_cons, splice_nil, List.set_cons_zero, List.set_cons_succ, Nat.zero_add, Nat.reduceAdd, List.cons_append, List.nil_append] at S); ((try clear F); have F := S.all; (try simp only [all_cons, all_nil, says_cell, and_true] at F)))
  have S : St h0 h (ownA Unt.enc 4 42 (.slice none 0 0) [] :: _) := S.nilS
  (try simp (maxSteps := 1000000) (disch := first | omega | assumption | exact Nat.le_of_ble_eq_true rfl) only [go_sem, ↓mwp_block, simprocAttr, F, Cfg.enc])
  refine loop_intro (fun ρ h' => ρ 1 = .pointer (some ⟨g, 0, none⟩) ∧ ρ 16 = .int .i64 C.os.length ∧ ∃ i : Nat, ρ 17 = .int .i64 i ∧ i ≤ C.os.length ∧ ∃ (Au : Option Addr) (cu : Nat), ρ 3 = .slice Au (ordsU 0 (C.os.take i)).length cu ∧
    St h0 h' (ownA Unt.enc 4 42 (.slice Au (ordsU 0 (C.os.take i)).length cu) (ordsU 0 (C.os.take i)) :: cellA g C.enc 26 :: l)) (fun ρ _ => C.os.length - (iv (ρ 17)).toNat) ?_ ?_
  · (try simp (maxSteps := 1000000) (disch := first | omega | assumption | exact Nat.le_of_ble_eq_true rfl) only [go_sem, ↓mwp_block, simprocAttr])
    exact ⟨0, rfl, by omega, none, 0, rfl, S⟩
  clear S F
  rintro ρ h J hJ ⟨e1, e16, i, e17, hi, Au, cu, e3, S⟩
  (try simp (maxSteps := 1000000) (disch := first | omega | assumption | exact Nat.le_of_ble_eq_true rfl) only [go_sem, ↓mwp_block, simprocAttr, e16, e17])
  refine cond_dec (fun hlt => ?_) (fun hlt => ?_)
  · have hil : i < C.os.length := by omega
    obtain ⟨b, off, hA, hr1⟩ := (r _ S.tl.tl).os.at hil
    have hmem := List.getElem_mem hil
    have hs1 := ordsU_snoc hil
    have hrl := fun {h'} (S : St h0 h' l) => (r _ S).ls _ hmem
    have hO := hOk _ hmem
    have hul := unitsOf_len hO i
    have hlen := ordsU_len (os := C.os.take i) 0 fun o ho => hOk o (List.mem_of_mem_take ho)
    have hle := sumTake_le k3 i
    generalize C.os[i] = o at *
    generalize ordsU 0 (C.os.take i) = U at *
    have hcn := hO.cnt
    have ho8 := hO.n1
    obtain ⟨kk, hlk⟩ := hO.ls
    ((try clear F); have F := S.all; (try simp only [all_cons, all_nil, says_cell, and_true] at F))
    (try simp (maxSteps := 1000000) (disch := first | omega | assumption | exact Nat.le_of_ble_eq_true rfl) only [go_sem, ↓mwp_block, simprocAttr, e1, e17, F, Cfg.enc, hA, hr1])
    (refine st_alloc S ?_; clear S; intro q h S; (try simp only [splice_cons, splice_nil, List.set_cons_zero, List.set_cons_succ, Nat.zero_add, Nat.reduceAdd, List.cons_append, List.nil_append] at S); ((try clear F); have F := S.all; (try simp only [all_cons, all_nil, says_cell, and_true] at F)))
    (try simp (maxSteps := 1000000) (disch := first | omega | assumption | exact Nat.le_of_ble_eq_true rfl) only [go_sem, ↓mwp_block, simprocAttr, F, Odr.enc])
    (refine st_store (by first | exact S | exact S.p1 | exact S.p2 | exact S.p3 | exact S.p4 | exact S.p5 | exact S.p6 | exact S.p7 | exact S.p8 | exact S.p9 | exact S.p10 | exact S.p11) (by rfl) (by rfl) (Nat.le_of_ble_eq_true rfl) ?_; clear S; intro h S; (try simp only [splice_cons, splice_nil, List.set_cons_zero, List.set_cons_succ, Nat.zero_add, Nat.reduceAdd, List.cons_append, List.nil_append] at S); ((try clear F); have F := S.all; (try simp only [all_cons, all_nil, says_cell, and_true] at F)))
    have S : St h0 h (ownA zEnc 1 2 (.slice none 0 0) [] :: _) := S.nilS
    (try simp (maxSteps := 1000000) (disch := first | omega | assumption | exact Nat.le_of_ble_eq_true rfl) only [go_sem, ↓mwp_block, simprocAttr, e3, F])
    refine loop_intro (fun ρ' h' => ρ' 1 = ρ 1 ∧ ρ' 16 = ρ 16 ∧ ρ' 17 = ρ 17 ∧ ρ' 4 = .int .i64 i ∧ ρ' 5 = .pointer (some ⟨q, 0, none⟩) ∧ ρ' 7 = .int .i64 U.length ∧ ρ' 29 = .int .i64 o.ls.length ∧ ∃ k : Nat, ρ' 30 = .int .i64 k ∧ k ≤ o.ls.length ∧
      ∃ (Ap Au : Option Addr) (cp cu : Nat), ρ' 6 = .slice Ap (priceL (o.ls.take k)).length cp ∧ ρ' 3 = .slice Au (U.length + (priceL (o.ls.take k)).length) cu ∧
      St h0 h' (ownA zEnc 1 2 (.slice Ap (priceL (o.ls.take k)).length cp) (priceL (o.ls.take k)) :: ownA Unt.enc 4 42 (.slice Au (U.length + (priceL (o.ls.take k)).length) cu) (U ++ expandU i (o.ls.take k)) :: cellA q o.enc 66 :: cellA g C.enc 26 :: l)) (fun ρ' _ => o.ls.length - (iv (ρ' 30)).toNat) ?_ ?_
    · (try simp (maxSteps := 1000000) (disch := first | omega | assumption | exact Nat.le_of_ble_eq_true rfl) only [go_sem, ↓mwp_block, simprocAttr])
      refine ⟨0, rfl, by omega, none, Au, 0, cu, rfl, e3, ?_⟩
      simp only [List.take_zero, expandU, List.flatMap_nil, List.append_nil]
      exact S.p2.p1
    have p1 := e1
    have p16 := e16
    have p17 := e17
    clear S F e1 e16 e17 e3 hr1
    rintro ρ' h J' hJ' ⟨e1, e16, e17, e4, e5, e7, e29, k, e30, hk, Ap, Au, cp, cu, e6, e3, S⟩
    (try simp (maxSteps := 1000000) (disch := first | omega | assumption | exact Nat.le_of_ble_eq_true rfl) only [go_sem, ↓mwp_block, simprocAttr, e29, e30])
    refine cond_dec (fun hlt2 => ?_) (fun hlt2 => ?_)
    · have hkl : k < o.ls.length := by omega
      obtain ⟨b2, off2, hA2, hr2⟩ := (hrl S.tl.tl.tl.tl).at hkl
      have hu1 := expandU_snoc i hkl
      have hp1 := priceL_snoc hkl
      have hct := cntTake_le hlk (k + 1)
      have hc1 := cntOf_snoc hkl
      have hpl := (len_sum (o.ls.take k) fun x hx => hO.count x (List.mem_of_mem_take hx)).1
      have hxl := ((len_sum (o.ls.take k) fun x hx => hO.count x (List.mem_of_mem_take hx)).2.2 i).1
      have hx := hlk _ (List.getElem_mem hkl)
      have hrx := fun {h'} (S : St h0 h' l) => (hrl S).at hkl
      generalize o.ls[k] = x at *
      obtain ⟨⟨_, ⟨hp0, hp1'⟩, hx0, hx1⟩, _⟩ := hx
      generalize priceL (o.ls.take k) = P at *
      generalize expandU i (o.ls.take k) = V at *
      have hq3 := rd1_part hr2 3 (by omega)
      simp only [Lin.enc, List.getElem?_cons_zero, List.getElem?_cons_succ] at hq3
      ((try clear F); have F := S.all; (try simp only [all_cons, all_nil, says_cell, and_true] at F))
      (try simp (maxSteps := 1000000) (disch := first | omega | assumption | exact Nat.le_of_ble_eq_true rfl) only [go_sem, ↓mwp_block, simprocAttr, e5, e30, F, Odr.enc, hA2, hq3])
      have hadd : ∀ j : Nat, j ≤ x.count.toNat → (P ++ List.replicate j x.price).length = P.length + j ∧ P.length + j ≤ 200 ∧ (U ++ V ++ List.replicate j (⟨i, x.sku, x.cat, x.price⟩ : Unt)).length = U.length + (P.length + j) := fun j hj => by
        refine ⟨by rw [List.length_append, List.length_replicate], by omega, ?_⟩
        rw [List.length_append, List.length_append, List.length_replicate, hxl, Nat.add_assoc]
      refine loop_intro (fun ρ'' h' => ρ'' 1 = ρ' 1 ∧ ρ'' 16 = ρ' 16 ∧ ρ'' 17 = ρ' 17 ∧ ρ'' 4 = ρ' 4 ∧ ρ'' 5 = ρ' 5 ∧ ρ'' 7 = ρ' 7 ∧ ρ'' 29 = ρ' 29 ∧ ρ'' 30 = ρ' 30 ∧ ρ'' 8 = .int .i64 k ∧ ρ'' 38 = .int .i64 x.count ∧ ∃ j : Nat, ρ'' 39 = .int .i64 j ∧ j ≤ x.count.toNat ∧
        ∃ (Ap Au : Option Addr) (cp cu : Nat), ρ'' 6 = .slice Ap (P.length + j) cp ∧ ρ'' 3 = .slice Au (U.length + (P.length + j)) cu ∧
        St h0 h' (ownA zEnc 1 2 (.slice Ap (P.length + j) cp) (P ++ List.replicate j x.price) :: ownA Unt.enc 4 42 (.slice Au (U.length + (P.length + j)) cu) (U ++ V ++ List.replicate j ⟨i, x.sku, x.cat, x.price⟩) :: cellA q o.enc 66 :: cellA g C.enc 26 :: l)) (fun ρ'' _ => x.count.toNat - (iv (ρ'' 39)).toNat) ?_ ?_
      · (try simp (maxSteps := 1000000) (disch := first | omega | assumption | exact Nat.le_of_ble_eq_true rfl) only [go_sem, ↓mwp_block, simprocAttr, e5, e30])
        exact ⟨0, rfl, by omega, Ap, Au, cp, cu, e6, e3, by simp only [List.replicate_zero, List.append_nil, Nat.add_zero]; exact S⟩
      have p1 := e1
      have p16 := e16
      have p17 := e17
      have p4 := e4
      have p5 := e5
      have p7 := e7
      have p29 := e29
      have p30 := e30
      clear S F e1 e16 e17 e4 e5 e7 e29 e30 e3 e6 hq3 hr2
      rintro ρ'' h J'' hJ'' ⟨e1, e16, e17, e4, e5, e7, e29, e30, e8, e38, j, e39, hj, Ap, Au, cp, cu, e6, e3, S⟩
      (try simp (maxSteps := 1000000) (disch := first | omega | assumption | exact Nat.le_of_ble_eq_true rfl) only [go_sem, ↓mwp_block, simprocAttr, e38, e39])
      refine cond_dec (fun hlt3 => ?_) (fun hlt3 => ?_)
      · have hjl : j < x.count.toNat := by omega
        obtain ⟨hl1, hl2, hl3⟩ := hadd j (by omega)
        obtain ⟨hm1, hm2, hm3⟩ := hadd (j + 1) (by omega)
        have er1 : P ++ List.replicate j x.price ++ [x.price] = P ++ List.replicate (j + 1) x.price := by rw [List.append_assoc, ← List.replicate_succ']
        have er2 : U ++ V ++ List.replicate j (⟨i, x.sku, x.cat, x.price⟩ : Unt) ++ [⟨i, x.sku, x.cat, x.price⟩] = U ++ V ++ List.replicate (j + 1) ⟨i, x.sku, x.cat, x.price⟩ := by rw [List.append_assoc (U ++ V), ← List.replicate_succ']
        obtain ⟨b3, off3, hA3, hr3⟩ := hrx S.tl.tl.tl.tl
        have hq0 := rd1_part0 hr3 (by omega)
        have hq1 := rd1_part hr3 1 (by omega)
        have hq2 := rd1_part hr3 2 (by omega)
        simp only [Lin.enc, List.getElem?_cons_zero, List.getElem?_cons_succ] at hq0 hq1 hq2
        ((try clear F); have F := S.all; (try simp only [all_cons, all_nil, says_cell, and_true] at F))
        (try simp (maxSteps := 1000000) (disch := first | omega | assumption | exact Nat.le_of_ble_eq_true rfl) only [go_sem, ↓mwp_block, simprocAttr])
        refine draw_eq ?_
        (try simp (maxSteps := 1000000) (disch := first | omega | assumption | exact Nat.le_of_ble_eq_true rfl) only [go_sem, ↓mwp_block, simprocAttr, e3, e4, p4, e5, p5, e8, F, Odr.enc, hA3, hq0, hq1, hq2])
        (refine st_alloc S ?_; clear S; intro r1 h S; (try simp only [splice_cons, splice_nil, List.set_cons_zero, List.set_cons_succ, Nat.zero_add, Nat.reduceAdd, List.cons_append, List.nil_append] at S); ((try clear F); have F := S.all; (try simp only [all_cons, all_nil, says_cell, and_true] at F)))
        (try simp (maxSteps := 1000000) (disch := first | omega | assumption | exact Nat.le_of_ble_eq_true rfl) only [go_sem, ↓mwp_block, simprocAttr])
        refine st_append1 (bytes := 32) (x := (⟨i, x.sku, x.cat, x.price⟩ : Unt)) Unt.enc_len (by omega) Unt.enc_plain rfl rfl S.p2.p1 (by omega) (by omega) ?_
        clear S F hq0 hq1 hq2 hr3
        intro v h S
        rw [er2] at S
        obtain ⟨Au, cu, rfl⟩ := S.sl
        rw [hm3] at S ⊢
        obtain ⟨b4, off4, hA4, hr4⟩ := hrx S.tl.tl.tl.tl
        have hq2 := rd1_part hr4 2 (by omega)
        simp only [Lin.enc, List.getElem?_cons_zero, List.getElem?_cons_succ] at hq2
        ((try clear F); have F := S.all; (try simp only [all_cons, all_nil, says_cell, and_true] at F))
        (try simp (maxSteps := 1000000) (disch := first | omega | assumption | exact Nat.le_of_ble_eq_true rfl) only [go_sem, ↓mwp_block, simprocAttr, e6, e5, p5, F, Odr.enc, e8, hA4, hq2])
        (refine st_alloc S ?_; clear S; intro r2 h S; (try simp only [splice_cons, splice_nil, List.set_cons_zero, List.set_cons_succ, Nat.zero_add, Nat.reduceAdd, List.cons_append, List.nil_append] at S); ((try clear F); have F := S.all; (try simp only [all_cons, all_nil, says_cell, and_true] at F)))
        (try simp (maxSteps := 1000000) (disch := first | omega | assumption | exact Nat.le_of_ble_eq_true rfl) only [go_sem, ↓mwp_block, simprocAttr])
        refine st_append1 (bytes := 8) (x := x.price) zEnc_len (by omega) zEnc_plain rfl rfl S.p2.p1 (by omega) (by omega) ?_
        clear S F hq2 hr4
        intro v h S
        rw [er1] at S
        obtain ⟨Ap, cp, rfl⟩ := S.sl
        rw [hm1] at S ⊢
        (try simp (maxSteps := 1000000) (disch := first | omega | assumption | exact Nat.le_of_ble_eq_true rfl) only [go_sem, ↓mwp_block, simprocAttr, e39])
        refine hJ'' _ _ ?_ ?_
        · (try simp (maxSteps := 1000000) (disch := first | omega | assumption | exact Nat.le_of_ble_eq_true rfl) only [go_sem, ↓mwp_block, simprocAttr, e1, e16, e17, e4, e5, e7, e29, e30, e8, e38])
          exact ⟨j + 1, rfl, by omega, Ap, Au, cp, cu, rfl, rfl, S⟩
        · (try simp (maxSteps := 1000000) (disch := first | omega | assumption | exact Nat.le_of_ble_eq_true rfl) only [go_sem, ↓mwp_block, simprocAttr, e39])
          omega
      · obtain rfl : j = x.count.toNat := by omega
        obtain ⟨hl1, hl2, hl3⟩ := hadd x.count.toNat (by omega)
        have hpx : (P ++ linP x).length = P.length + x.count.toNat := hl1
        have hux : U ++ (V ++ linU i x) = U ++ V ++ List.replicate x.count.toNat ⟨i, x.sku, x.cat, x.price⟩ := by rw [← List.append_assoc]; rfl
        (try simp (maxSteps := 1000000) (disch := first | omega | assumption | exact Nat.le_of_ble_eq_true rfl) only [go_sem, ↓mwp_block, simprocAttr, e30, p30])
        refine hJ' _ _ ?_ ?_
        · (try simp (maxSteps := 1000000) (disch := first | omega | assumption | exact Nat.le_of_ble_eq_true rfl) only [go_sem, ↓mwp_block, simprocAttr, e1, p1, e16, p16, e17, p17, e4, p4, e5, p5, e7, p7, e29, p29])
          exact ⟨k + 1, rfl, by omega, Ap, Au, cp, cu, by rw [hp1, hpx]; exact e6, by rw [hp1, hpx]; exact e3, by rw [hu1, hp1, hpx, hux]; exact S⟩
        · (try simp (maxSteps := 1000000) (disch := first | omega | assumption | exact Nat.le_of_ble_eq_true rfl) only [go_sem, ↓mwp_block, simprocAttr, p30])
          omega
    obtain rfl : k = o.ls.length := by omega
    rw [List.take_length] at S e6 e3
    clear hJ'
    have hXl := unitsOf_len hO i
    have hYl := ((len_sum o.ls hO.count).2.2 i)
    have hPl := (len_sum o.ls hO.count).1
    have hat := fun {k} (hk : k < (expandU i o.ls).length) h1 h2 h3 h4 => unitsOf_at hO i hk h1 h2 h3 h4
    have hVb : ∀ u ∈ expandU (i : Int) o.ls, 0 ≤ u.share ∧ u.share ≤ 1073741824 := fun u hu => by
      obtain ⟨v1, v2⟩ := priceL_fit hO u.share (by rw [← hYl.2]; exact List.mem_map_of_mem hu)
      exact ⟨v1, v2⟩
    obtain ⟨dN, hdN⟩ : ∃ n : Nat, o.disc = n := ⟨o.disc.toNat, by have := hO.disc.1; omega⟩
    obtain ⟨tN, htN⟩ : ∃ n : Nat, o.tax = n := ⟨o.tax.toNat, by have := hO.tax.1; omega⟩
    obtain ⟨sN, hsN⟩ : ∃ n : Nat, o.ship = n := ⟨o.ship.toNat, by have := hO.ship.1; omega⟩
    have a1 : askS dN (priceL o.ls) = 0 := by rw [← hdN]; exact hO.ask hO.disc
    have a2 : askS tN (priceL o.ls) = 0 := by rw [← htN]; exact hO.ask hO.tax
    have a3 : askS sN (priceL o.ls) = 0 := by rw [← hsN]; exact hO.ask hO.ship
    obtain ⟨b1l, _, b1b⟩ := shF_len a1
    obtain ⟨b2l, _, b2b⟩ := shF_len a2
    obtain ⟨b3l, _, b3b⟩ := shF_len a3
    have hd30 := hO.disc.2
    have ht30 := hO.tax.2
    have hs30 := hO.ship.2
    rw [hdN, htN, hsN, Int.toNat_natCast, Int.toNat_natCast, Int.toNat_natCast] at hat
    rw [hdN] at hd30
    rw [htN] at ht30
    rw [hsN] at hs30
    have i1 := shF_is dN (priceL o.ls)
    have i2 := shF_is tN (priceL o.ls)
    have i3 := shF_is sN (priceL o.ls)
    generalize shF dN (priceL o.ls) = D1 at *
    generalize shF tN (priceL o.ls) = D2 at *
    generalize shF sN (priceL o.ls) = D3 at *
    generalize hW : unitsOf o i = W at *
    generalize hV : expandU (i : Int) o.ls = V at *
    generalize hP : priceL o.ls = P at *
    obtain ⟨n, hn⟩ : ∃ n, P.length = n := ⟨_, rfl⟩
    have hn200 : n ≤ 200 := by omega
    have hn0 : 0 < n := by
      have := all_bound hlk
      have := hO.n0
      omega
    have rx2 : ∀ K t, readT (fun h' => St h0 h' _) (fun h' => rd1 h' (.pointer (some ⟨q, 2, none⟩))) K t = bindT (some (.int .i64 o.disc)) K ⟨⟩ := fun K t => reads_of S (fun h' s => st_rd1 s.p2)
    have rx3 : ∀ K t, readT (fun h' => St h0 h' _) (fun h' => rd1 h' (.pointer (some ⟨q, 3, none⟩))) K t = bindT (some (.int .i64 o.tax)) K ⟨⟩ := fun K t => reads_of S (fun h' s => st_rd1 s.p2)
    have rx4 : ∀ K t, readT (fun h' => St h0 h' _) (fun h' => rd1 h' (.pointer (some ⟨q, 4, none⟩))) K t = bindT (some (.int .i64 o.ship)) K ⟨⟩ := fun K t => reads_of S (fun h' s => st_rd1 s.p2)
    (try simp (maxSteps := 1000000) (disch := first | omega | assumption | exact Nat.le_of_ble_eq_true rfl) only [go_sem, ↓mwp_block, simprocAttr])
    refine draw_st S ?_
    (try simp (maxSteps := 1000000) (disch := first | omega | assumption | exact Nat.le_of_ble_eq_true rfl) only [go_sem, ↓mwp_block, simprocAttr, e5, rx2, rx3, rx4, hdN, htN, hsN, e6])
    refine call_intro (RShares_ok dN P (fun h' S => S.arr zEnc_len) a1 i1 S) ?_
    clear S rx2 rx3 rx4
    intro v1 h S
    try refine ⟨S.tl, ?_⟩
    (try simp (maxSteps := 1000000) (disch := first | omega | assumption | exact Nat.le_of_ble_eq_true rfl) only [go_sem, ↓mwp_block, simprocAttr])
    refine call_intro (RShares_ok tN P (fun h' S => S.p1.arr zEnc_len) a2 i2 S) ?_
    clear S
    intro v2 h S
    try refine ⟨S.tl.tl, ?_⟩
    (try simp (maxSteps := 1000000) (disch := first | omega | assumption | exact Nat.le_of_ble_eq_true rfl) only [go_sem, ↓mwp_block, simprocAttr])
    refine call_intro (RShares_ok sN P (fun h' S => S.p2.arr zEnc_len) a3 i3 S) ?_
    clear S
    intro v3 h S
    obtain ⟨A3, c3, rfl⟩ := S.sl
    obtain ⟨A2, c2, rfl⟩ := S.p1.sl
    obtain ⟨A1, c1, rfl⟩ := S.p2.sl
    have S := S.p4
    rw [hn] at S e6 e3
    rw [b1l, b2l, b3l, hn] at S ⊢
    obtain ⟨bu, rfl⟩ := S.ownAt (by rw [List.length_append]; omega)
    obtain ⟨q3, rfl⟩ := S.p1.ownAt (by omega)
    obtain ⟨q2, rfl⟩ := S.p2.ownAt (by omega)
    obtain ⟨q1, rfl⟩ := S.p3.ownAt (by omega)
    have hXY : (U ++ W).length = (U ++ V).length := by rw [List.length_append, List.length_append]; omega
    (try simp (maxSteps := 1000000) (disch := first | omega | assumption | exact Nat.le_of_ble_eq_true rfl) only [go_sem, ↓mwp_block, simprocAttr, e6])
    refine loop_intro (fun ρ'' h' => ρ'' 1 = ρ' 1 ∧ ρ'' 16 = ρ' 16 ∧ ρ'' 17 = ρ' 17 ∧ ρ'' 3 = .slice (some ⟨bu, 0, none⟩) (U.length + n) cu ∧ ρ'' 7 = .int .i64 U.length ∧ ρ'' 9 = .slice (some ⟨q1, 0, none⟩) n c1 ∧ ρ'' 10 = .slice (some ⟨q2, 0, none⟩) n c2 ∧ ρ'' 11 = .slice (some ⟨q3, 0, none⟩) n c3 ∧ ρ'' 88 = .int .i64 n ∧ ∃ k : Nat, ρ'' 89 = .int .i64 k ∧ k ≤ n ∧
      St h0 h' (ownA Unt.enc 4 42 (.slice (some ⟨bu, 0, none⟩) (U.length + n) cu) ((U ++ W).take (U.length + k) ++ (U ++ V).drop (U.length + k)) :: ownA zEnc 1 2 (.slice (some ⟨q3, 0, none⟩) n c3) D3 :: ownA zEnc 1 2 (.slice (some ⟨q2, 0, none⟩) n c2) D2 :: ownA zEnc 1 2 (.slice (some ⟨q1, 0, none⟩) n c1) D1 ::
        ownA zEnc 1 2 (.slice Ap n cp) P :: cellA q o.enc 66 :: cellA g C.enc 26 :: l)) (fun ρ'' _ => n - (iv (ρ'' 89)).toNat) ?_ ?_
    · (try simp (maxSteps := 1000000) (disch := first | omega | assumption | exact Nat.le_of_ble_eq_true rfl) only [go_sem, ↓mwp_block, simprocAttr, e3, e7])
      refine ⟨0, rfl, by omega, ?_⟩
      rw [Nat.add_zero, List.take_left', List.drop_left'] <;> first | exact S | rfl
    have p1' := e1
    have p16' := e16
    have p17' := e17
    clear S e1 e16 e17 e4 e5 e7 e29 e30 e6 e3
    rintro ρ'' h J'' hJ'' ⟨e1, e16, e17, e3, e7, e9, e10, e11, e88, k, e89, hk, S⟩
    (try simp (maxSteps := 1000000) (disch := first | omega | assumption | exact Nat.le_of_ble_eq_true rfl) only [go_sem, ↓mwp_block, simprocAttr, e88, e89])
    refine cond_dec (fun hlt3 => ?_) (fun hlt3 => ?_)
    · have hkn : k < n := by omega
      have hml := mid_len (U ++ W) (U ++ V) hXY (U.length + k)
      have hlUV : (U ++ V).length = U.length + n := by rw [List.length_append]; omega
      have hru := own_part Unt.enc_len S (i := U.length + k) (j := 3) (by omega) (by omega)
      have hmg := mid_get (U ++ W) (U ++ V) hXY (k := U.length + k) (by omega)
      have hgV : (U ++ V)[U.length + k]'(by omega) = V[k]'(by omega) := by rw [List.getElem_append_right (by omega)]; simp
      have hgW : (U ++ W)[U.length + k]'(by omega) = W[k]'(by omega) := by rw [List.getElem_append_right (by omega)]; simp
      have hset := set_mid (U ++ W) (U ++ V) hXY (k := U.length + k) (by omega)
      rw [hmg, hgV] at hru
      rw [hgV] at hmg
      have hr1 := own_rd S.p3 (i := k) (List.getElem?_eq_getElem (by omega))
      have hr2 := own_rd S.p2 (i := k) (List.getElem?_eq_getElem (by omega))
      have hr3 := own_rd S.p1 (i := k) (List.getElem?_eq_getElem (by omega))
      have hwk := hat (k := k) (by omega) (by omega) (by omega) (by omega) (by omega)
      have hb0 := hVb _ (List.getElem_mem (l := V) (n := k) (by omega))
      have hb1 := b1b _ (List.getElem_mem (l := D1) (n := k) (by omega))
      have hb2 := b2b _ (List.getElem_mem (l := D2) (n := k) (by omega))
      have hb3 := b3b _ (List.getElem_mem (l := D3) (n := k) (by omega))
      rw [hgW, hwk] at hset
      generalize D1[k]'(by omega) = x1 at *
      generalize D2[k]'(by omega) = x2 at *
      generalize D3[k]'(by omega) = x3 at *
      generalize V[k]'(by omega) = u at *
      simp only [Unt.enc, List.getElem?_cons_succ, List.getElem?_cons_zero] at hru
      have w0 : IntKind.i64.wrap ((U.length : Int) + k) = ((U.length + k : Nat) : Int) := addI rfl (by omega)
      have w1 : IntKind.i64.wrap (u.share - x1) = u.share - x1 := wrap_i64 (by omega) (by omega)
      have w2 : IntKind.i64.wrap (u.share - x1 + x2) = u.share - x1 + x2 := wrap_i64 (by omega) (by omega)
      have w3 : IntKind.i64.wrap (u.share - x1 + x2 + x3) = u.share - x1 + x2 + x3 := wrap_i64 (by omega) (by omega)
      (try simp (maxSteps := 1000000) (disch := first | omega | assumption | exact Nat.le_of_ble_eq_true rfl) only [go_sem, ↓mwp_block, simprocAttr])
      refine draw_eq ?_
      (try simp (maxSteps := 1000000) (disch := first | omega | assumption | exact Nat.le_of_ble_eq_true rfl) only [go_sem, ↓mwp_block, simprocAttr, e3, e7, e89, e9, e10, e11, w0, hru, hr1, hr2, hr3, w1, w2, w3])
      refine st_setPart Unt.enc_len (i := U.length + k) (j := 3) (x := { u with share := u.share - x1 + x2 + x3 }) S (by omega) (by omega) (Nat.le_refl 4) rfl rfl (by rw [hmg]; rfl) ?_
      clear S hru hr1 hr2 hr3
      intro h S
      rw [hset] at S
      (try simp (maxSteps := 1000000) (disch := first | omega | assumption | exact Nat.le_of_ble_eq_true rfl) only [go_sem, ↓mwp_block, simprocAttr, e89])
      refine hJ'' _ _ ?_ ?_
      · (try simp (maxSteps := 1000000) (disch := first | omega | assumption | exact Nat.le_of_ble_eq_true rfl) only [go_sem, ↓mwp_block, simprocAttr, e1, e16, e17, e3, e7, e9, e10, e11, e88])
        exact ⟨k + 1, rfl, by omega, S⟩
      · (try simp (maxSteps := 1000000) (disch := first | omega | assumption | exact Nat.le_of_ble_eq_true rfl) only [go_sem, ↓mwp_block, simprocAttr, e89])
        omega
    · obtain rfl : k = n := by omega
      rw [List.take_of_length_le (by rw [List.length_append]; omega), List.drop_of_length_le (by rw [List.length_append]; omega), List.append_nil, ← hs1] at S
      have hfl : (ordsU 0 (C.os.take (i + 1))).length = U.length + k := by rw [hs1, List.length_append]; omega
      (try simp (maxSteps := 1000000) (disch := first | omega | assumption | exact Nat.le_of_ble_eq_true rfl) only [go_sem, ↓mwp_block, simprocAttr, e17, p17', p17])
      refine hJ _ _ ?_ ?_
      · (try simp (maxSteps := 1000000) (disch := first | omega | assumption | exact Nat.le_of_ble_eq_true rfl) only [go_sem, ↓mwp_block, simprocAttr, e1, p1', p1, e16, p16', p16])
        exact ⟨i + 1, rfl, by omega, _, cu, by rw [hfl]; exact e3, by rw [hfl]; exact S.d1.d1.d1.d1.d1⟩
      · (try simp (maxSteps := 1000000) (disch := first | omega | assumption | exact Nat.le_of_ble_eq_true rfl) only [go_sem, ↓mwp_block, simprocAttr, p17])
        omega
  obtain rfl : i = C.os.length := by omega
  rw [List.take_length] at e3 S
  have hlen := ordsU_len (os := C.os) 0 hOk
  clear hJ
  ((try clear F); have F := S.all; (try simp only [all_cons, all_nil, says_cell, and_true] at F))
  (try simp (maxSteps := 1000000) (disch := first | omega | assumption | exact Nat.le_of_ble_eq_true rfl) only [go_sem, ↓mwp_block, simprocAttr, e1, F, Cfg.enc])
  refine loop_intro (fun ρ h' => ρ 1 = .pointer (some ⟨g, 0, none⟩) ∧ ρ 124 = .int .i64 C.ss.length ∧ ∃ i : Nat, ρ 125 = .int .i64 i ∧ i ≤ C.ss.length ∧ ∃ (Au : Option Addr) (cu : Nat), ρ 3 = .slice Au (ordsU 0 C.os ++ (C.ss.take i).flatMap supU).length cu ∧
    St h0 h' (ownA Unt.enc 4 42 (.slice Au (ordsU 0 C.os ++ (C.ss.take i).flatMap supU).length cu) (ordsU 0 C.os ++ (C.ss.take i).flatMap supU) :: cellA g C.enc 26 :: l)) (fun ρ _ => C.ss.length - (iv (ρ 125)).toNat) ?_ ?_
  · (try simp (maxSteps := 1000000) (disch := first | omega | assumption | exact Nat.le_of_ble_eq_true rfl) only [go_sem, ↓mwp_block, simprocAttr, e1])
    exact ⟨0, rfl, by omega, Au, cu, by simp [e3], by simpa using S⟩
  clear S F e1 e16 e17 e3
  rintro ρ h J hJ ⟨e1, e124, i, e125, hi, Au, cu, e3, S⟩
  (try simp (maxSteps := 1000000) (disch := first | omega | assumption | exact Nat.le_of_ble_eq_true rfl) only [go_sem, ↓mwp_block, simprocAttr, e124, e125])
  refine cond_dec (fun hlt => ?_) (fun hlt => ?_)
  · have hil : i < C.ss.length := by omega
    have hrx := fun {h'} (S : St h0 h' l) => (r _ S).ss.at hil
    have hs1 : ordsU 0 C.os ++ (C.ss.take (i + 1)).flatMap supU = (ordsU 0 C.os ++ (C.ss.take i).flatMap supU) ++ supU C.ss[i] := by rw [supU_snoc hil, List.append_assoc]
    have hx := k4.1 _ (List.getElem_mem hil)
    have hl2 := supU_len (ss := C.ss.take i) fun s hs => k4.1 s (List.mem_of_mem_take hs)
    have hl3 := supTake_le k4.1 (i + 1)
    rw [supSum_snoc hil] at hl3
    generalize C.ss[i] = x at *
    obtain ⟨_, _, hx0, hx1⟩ := hx
    have hPl : ((ordsU 0 C.os ++ (C.ss.take i).flatMap supU).length : Int) + x.count ≤ 200 := by rw [List.length_append]; omega
    generalize ordsU 0 C.os ++ (C.ss.take i).flatMap supU = P at *
    obtain ⟨b, off, hA, hr1⟩ := hrx S.tl.tl
    have hq2 := rd1_part hr1 2 (by omega)
    simp only [Sup.enc, List.getElem?_cons_zero, List.getElem?_cons_succ] at hq2
    ((try clear F); have F := S.all; (try simp only [all_cons, all_nil, says_cell, and_true] at F))
    (try simp (maxSteps := 1000000) (disch := first | omega | assumption | exact Nat.le_of_ble_eq_true rfl) only [go_sem, ↓mwp_block, simprocAttr, e1, e125, F, Cfg.enc, hA, hq2])
    refine loop_intro (fun ρ' h' => ρ' 1 = .pointer (some ⟨g, 0, none⟩) ∧ ρ' 124 = ρ 124 ∧ ρ' 125 = ρ 125 ∧ ρ' 13 = .int .i64 i ∧ ρ' 133 = .int .i64 x.count ∧ ∃ j : Nat, ρ' 134 = .int .i64 j ∧ j ≤ x.count.toNat ∧
      ∃ (Au : Option Addr) (cu : Nat), ρ' 3 = .slice Au (P.length + j) cu ∧
      St h0 h' (ownA Unt.enc 4 42 (.slice Au (P.length + j) cu) (P ++ List.replicate j ⟨-1, x.sku, 0, x.price⟩) :: cellA g C.enc 26 :: l)) (fun ρ' _ => x.count.toNat - (iv (ρ' 134)).toNat) ?_ ?_
    · (try simp (maxSteps := 1000000) (disch := first | omega | assumption | exact Nat.le_of_ble_eq_true rfl) only [go_sem, ↓mwp_block, simprocAttr, e1, e125])
      exact ⟨0, rfl, by omega, Au, cu, e3, by simp only [List.replicate_zero, List.append_nil, Nat.add_zero]; exact S⟩
    have p124 := e124
    have p125 := e125
    clear S F e1 e124 e125 e3 hr1 hq2
    rintro ρ' h J' hJ' ⟨e1, e124, e125, e13, e133, j, e134, hj, Au, cu, e3, S⟩
    (try simp (maxSteps := 1000000) (disch := first | omega | assumption | exact Nat.le_of_ble_eq_true rfl) only [go_sem, ↓mwp_block, simprocAttr, e133, e134])
    refine cond_dec (fun hlt2 => ?_) (fun hlt2 => ?_)
    · have hjl : j < x.count.toNat := by omega
      have er2 : P ++ List.replicate j (⟨-1, x.sku, 0, x.price⟩ : Unt) ++ [⟨-1, x.sku, 0, x.price⟩] = P ++ List.replicate (j + 1) ⟨-1, x.sku, 0, x.price⟩ := by rw [List.append_assoc, ← List.replicate_succ']
      have hll : (P ++ List.replicate j (⟨-1, x.sku, 0, x.price⟩ : Unt)).length = P.length + j := by rw [List.length_append, List.length_replicate]
      have hll2 : (P ++ List.replicate (j + 1) (⟨-1, x.sku, 0, x.price⟩ : Unt)).length = P.length + (j + 1) := by rw [List.length_append, List.length_replicate]
      obtain ⟨b3, off3, hA3, hr3⟩ := hrx S.tl.tl
      have hq0 := rd1_part0 hr3 (by omega)
      have hq1 := rd1_part hr3 1 (by omega)
      simp only [Sup.enc, List.getElem?_cons_zero, List.getElem?_cons_succ] at hq0 hq1
      ((try clear F); have F := S.all; (try simp only [all_cons, all_nil, says_cell, and_true] at F))
      (try simp (maxSteps := 1000000) (disch := first | omega | assumption | exact Nat.le_of_ble_eq_true rfl) only [go_sem, ↓mwp_block, simprocAttr])
      refine draw_eq ?_
      (try simp (maxSteps := 1000000) (disch := first | omega | assumption | exact Nat.le_of_ble_eq_true rfl) only [go_sem, ↓mwp_block, simprocAttr, e3, e1, e13, F, Cfg.enc, hA3, hq0, hq1])
      (refine st_alloc S ?_; clear S; intro r1 h S; (try simp only [splice_cons, splice_nil, List.set_cons_zero, List.set_cons_succ, Nat.zero_add, Nat.reduceAdd, List.cons_append, List.nil_append] at S); ((try clear F); have F := S.all; (try simp only [all_cons, all_nil, says_cell, and_true] at F)))
      (try simp (maxSteps := 1000000) (disch := first | omega | assumption | exact Nat.le_of_ble_eq_true rfl) only [go_sem, ↓mwp_block, simprocAttr])
      refine st_append1 (bytes := 32) (x := (⟨-1, x.sku, 0, x.price⟩ : Unt)) Unt.enc_len (by omega) Unt.enc_plain rfl rfl S (by omega) (by omega) ?_
      clear S F hq0 hq1 hr3
      intro v h S
      rw [er2] at S
      obtain ⟨Au, cu, rfl⟩ := S.sl
      rw [hll2] at S ⊢
      (try simp (maxSteps := 1000000) (disch := first | omega | assumption | exact Nat.le_of_ble_eq_true rfl) only [go_sem, ↓mwp_block, simprocAttr, e134])
      refine hJ' _ _ ?_ ?_
      · (try simp (maxSteps := 1000000) (disch := first | omega | assumption | exact Nat.le_of_ble_eq_true rfl) only [go_sem, ↓mwp_block, simprocAttr, e1, e124, e125, e13, e133])
        exact ⟨j + 1, rfl, by omega, Au, cu, rfl, S⟩
      · (try simp (maxSteps := 1000000) (disch := first | omega | assumption | exact Nat.le_of_ble_eq_true rfl) only [go_sem, ↓mwp_block, simprocAttr, e134])
        omega
    · obtain rfl : j = x.count.toNat := by omega
      have hrp : P ++ List.replicate x.count.toNat (⟨-1, x.sku, 0, x.price⟩ : Unt) = P ++ supU x := rfl
      have hll : (P ++ supU x).length = P.length + x.count.toNat := by rw [List.length_append, supU, List.length_replicate]
      rw [hrp] at S
      (try simp (maxSteps := 1000000) (disch := first | omega | assumption | exact Nat.le_of_ble_eq_true rfl) only [go_sem, ↓mwp_block, simprocAttr, e125, p125])
      refine hJ _ _ ?_ ?_
      · (try simp (maxSteps := 1000000) (disch := first | omega | assumption | exact Nat.le_of_ble_eq_true rfl) only [go_sem, ↓mwp_block, simprocAttr, e1, e124, p124])
        exact ⟨i + 1, rfl, by omega, Au, cu, by rw [hs1, hll]; exact e3, by rw [hs1, hll]; exact S⟩
      · (try simp (maxSteps := 1000000) (disch := first | omega | assumption | exact Nat.le_of_ble_eq_true rfl) only [go_sem, ↓mwp_block, simprocAttr, p125])
        omega
  obtain rfl : i = C.ss.length := by omega
  rw [List.take_length] at e3 S
  (try simp (maxSteps := 1000000) (disch := first | omega | assumption | exact Nat.le_of_ble_eq_true rfl) only [go_sem, ↓mwp_block, simprocAttr, e3])
  exact hK _ _ S.d1
end
end Go.Proofs.YtblalmgahfbalaaGreat.MX

/- Orders: the law OrderUnits. -/
namespace Go.Proofs.YtblalmgahfbalaaGreat.MX
open Go Go.Proofs
set_option linter.unusedSimpArgs false
set_option linter.unusedVariables false
set_option maxHeartbeats 8000000
def fewC (C : Cfg) : Prop := C.os.length ≤ 40 ∧ C.ss.length ≤ 40 ∧ C.ps.length ≤ 40 ∧ ∀ o ∈ C.os, o.ls.length ≤ 20
theorem Few_ok {h0 : Heap} (C : Cfg) (r : C.rd h0) (w : C.wf) :
    CallsH Tryz.prog 17 [.agg C.enc.toArray] h0 fun v h' => v = .bool (dcd (fewC C)) ∧ Fr h0 h' [] := by
  have S := St.nil h0
  have r' : ∀ {h' : Heap} {l : List HP}, St h0 h' l → C.rd h' := fun S => r.fr S.fr
  have hw := w.l1
  have hw2 := w.m1
  by_cases d1 : 40 < (C.os.length : Int)
  · (refine enterK c_recouplaw10_Few (Nat.le_of_ble_eq_true rfl) fun K hK => ?_; (try simp (maxSteps := 1000000) (disch := first | omega | assumption | exact Nat.le_of_ble_eq_true rfl) only [go_sem, ↓mwp_block, simprocAttr, ir_recouplaw10_Few]))
    (refine st_alloc S ?_; clear S; intro g h S; (try simp only [splice_cons, splice_nil, List.set_cons_zero, List.set_cons_succ, Nat.zero_add, Nat.reduceAdd, List.cons_append, List.nil_append] at S); ((try clear F); have F := S.all; (try simp only [all_cons, all_nil, says_cell, and_true] at F)))
    (try simp (maxSteps := 1000000) (disch := first | omega | assumption | exact Nat.le_of_ble_eq_true rfl) only [go_sem, ↓mwp_block, simprocAttr, F, Cfg.enc, d1])
    exact hK _ _ ⟨by rw [dcd_false (fun h => by have := h.1; omega)], S.fr⟩
  by_cases d2 : 40 < (C.ss.length : Int)
  · (refine enterK c_recouplaw10_Few (Nat.le_of_ble_eq_true rfl) fun K hK => ?_; (try simp (maxSteps := 1000000) (disch := first | omega | assumption | exact Nat.le_of_ble_eq_true rfl) only [go_sem, ↓mwp_block, simprocAttr, ir_recouplaw10_Few]))
    (refine st_alloc S ?_; clear S; intro g h S; (try simp only [splice_cons, splice_nil, List.set_cons_zero, List.set_cons_succ, Nat.zero_add, Nat.reduceAdd, List.cons_append, List.nil_append] at S); ((try clear F); have F := S.all; (try simp only [all_cons, all_nil, says_cell, and_true] at F)))
    (try simp (maxSteps := 1000000) (disch := first | omega | assumption | exact Nat.le_of_ble_eq_true rfl) only [go_sem, ↓mwp_block, simprocAttr, F, Cfg.enc, d1, d2])
    exact hK _ _ ⟨by rw [dcd_false (fun h => by have := h.2.1; omega)], S.fr⟩
  by_cases d3 : 40 < (C.ps.length : Int)
  · (refine enterK c_recouplaw10_Few (Nat.le_of_ble_eq_true rfl) fun K hK => ?_; (try simp (maxSteps := 1000000) (disch := first | omega | assumption | exact Nat.le_of_ble_eq_true rfl) only [go_sem, ↓mwp_block, simprocAttr, ir_recouplaw10_Few]))
    (refine st_alloc S ?_; clear S; intro g h S; (try simp only [splice_cons, splice_nil, List.set_cons_zero, List.set_cons_succ, Nat.zero_add, Nat.reduceAdd, List.cons_append, List.nil_append] at S); ((try clear F); have F := S.all; (try simp only [all_cons, all_nil, says_cell, and_true] at F)))
    (try simp (maxSteps := 1000000) (disch := first | omega | assumption | exact Nat.le_of_ble_eq_true rfl) only [go_sem, ↓mwp_block, simprocAttr, F, Cfg.enc, d1, d2, d3])
    exact hK _ _ ⟨by rw [dcd_false (fun h => by have := h.2.2.1; omega)], S.fr⟩
  (refine enterK c_recouplaw10_Few (Nat.le_of_ble_eq_true rfl) fun K hK => ?_; (try simp (maxSteps := 1000000) (disch := first | omega | assumption | exact Nat.le_of_ble_eq_true rfl) only [go_sem, ↓mwp_block, simprocAttr, ir_recouplaw10_Few]))
  (refine st_alloc S ?_; clear S; intro g h S; (try simp only [splice_cons, splice_nil, List.set_cons_zero, List.set_cons_succ, Nat.zero_add, Nat.reduceAdd, List.cons_append, List.nil_append] at S); ((try clear F); have F := S.all; (try simp only [all_cons, all_nil, says_cell, and_true] at F)))
  (try simp (maxSteps := 1000000) (disch := first | omega | assumption | exact Nat.le_of_ble_eq_true rfl) only [go_sem, ↓mwp_block, simprocAttr, F, Cfg.enc, d1, d2, d3])
  refine loop_intro (fun ρ h' => ρ 1 = .pointer (some ⟨g, 0, none⟩) ∧ ρ 22 = .int .i64 C.os.length ∧ ∃ i : Nat, ρ 23 = .int .i64 i ∧ i ≤ C.os.length ∧ (∀ o ∈ C.os.take i, o.ls.length ≤ 20) ∧ St h0 h' [cellA g C.enc 26]) (fun ρ _ => C.os.length - (iv (ρ 23)).toNat) ?_ ?_
  · (try simp (maxSteps := 1000000) (disch := first | omega | assumption | exact Nat.le_of_ble_eq_true rfl) only [go_sem, ↓mwp_block, simprocAttr])
    exact ⟨0, rfl, by omega, by simp, S⟩
  clear S F
  rintro ρ h J hJ ⟨e1, e22, i, e23, hi, hok, S⟩
  (try simp (maxSteps := 1000000) (disch := first | omega | assumption | exact Nat.le_of_ble_eq_true rfl) only [go_sem, ↓mwp_block, simprocAttr, e22, e23])
  refine cond_dec (fun hlt => ?_) (fun hlt => ?_)
  · have hil : i < C.os.length := by omega
    obtain ⟨b, off, hA, hr1⟩ := (r' S).os.at hil
    have hmem := List.getElem_mem hil
    have htk : C.os[i].ls.length ≤ 20 → ∀ o ∈ C.os.take (i + 1), o.ls.length ≤ 20 := fun hx o ho => by
      rw [List.take_succ_eq_append_getElem hil] at ho
      rcases List.mem_append.1 ho with ho | ho
      · exact hok o ho
      · rw [List.mem_singleton] at ho; rw [ho]; exact hx
    generalize C.os[i] = o at *
    have hq1 := rd1_part hr1 1 (by omega)
    simp only [Odr.enc, List.getElem?_cons_zero, List.getElem?_cons_succ] at hq1
    ((try clear F); have F := S.all; (try simp only [all_cons, all_nil, says_cell, and_true] at F))
    by_cases d4 : 20 < (o.ls.length : Int)
    · (try simp (maxSteps := 1000000) (disch := first | omega | assumption | exact Nat.le_of_ble_eq_true rfl) only [go_sem, ↓mwp_block, simprocAttr, e1, e23, F, Cfg.enc, hA, hq1, d4])
      exact hK _ _ ⟨by rw [dcd_false (fun h => by have := h.2.2.2 _ hmem; omega)], S.fr⟩
    · (try simp (maxSteps := 1000000) (disch := first | omega | assumption | exact Nat.le_of_ble_eq_true rfl) only [go_sem, ↓mwp_block, simprocAttr, e1, e23, F, Cfg.enc, hA, hq1, d4])
      refine hJ _ _ ?_ ?_
      · (try simp (maxSteps := 1000000) (disch := first | omega | assumption | exact Nat.le_of_ble_eq_true rfl) only [go_sem, ↓mwp_block, simprocAttr, e1, e22])
        exact ⟨i + 1, rfl, by omega, htk (by omega), S⟩
      · (try simp (maxSteps := 1000000) (disch := first | omega | assumption | exact Nat.le_of_ble_eq_true rfl) only [go_sem, ↓mwp_block, simprocAttr, e23])
        omega
  · obtain rfl : i = C.os.length := by omega
    rw [List.take_length] at hok
    (try simp (maxSteps := 1000000) (disch := first | omega | assumption | exact Nat.le_of_ble_eq_true rfl) only [go_sem, ↓mwp_block, simprocAttr])
    exact hK _ _ ⟨by rw [dcd_true ⟨by omega, by omega, by omega, hok⟩], S.fr⟩
theorem unitsAll_len {C : Cfg} (hok : okCfg C) : ((unitsAll C).length : Int) = totOf C ∧ (unitsAll C).length ≤ 200 := by
  have h1 := ordsU_len (os := C.os) 0 hok.okO
  have h2 := supU_len hok.2.2.2.2.1.1
  have h3 := hok.2.2.2.2.2
  have ht : totOf C = ordSum C.os + supSum C.ss := rfl
  rw [unitsAll, List.length_append]
  omega
def c0C : Cfg := ⟨none, 0, [], none, 0, [], none, 0, []⟩
theorem c0_ok : okCfg c0C := ⟨⟨by decide, by simp [c0C]⟩, by decide, by decide, by simp [c0C], ⟨by simp [c0C], by simp [c0C]⟩, by decide⟩
end Go.Proofs.YtblalmgahfbalaaGreat.MX
