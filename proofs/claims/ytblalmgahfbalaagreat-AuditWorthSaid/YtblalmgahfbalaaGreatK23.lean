/- Texts in one file: Od4, Od7. -/
import Derived.Test.YtblalmgahfbalaaGreatK20
import Derived.Test.YtblalmgahfbalaaGreatK22

/- Orders: the reference's word on which configs are right. -/
namespace Go.Proofs.YtblalmgahfbalaaGreat.MX
open Go Go.Proofs
set_option linter.unusedSimpArgs false
set_option linter.unusedVariables false
set_option maxHeartbeats 16000000
theorem RightConfig_ok {h0 : Heap} (C : Cfg) (r : C.rd h0) (l1 : C.os.length < 1000000) (l2 : C.ss.length < 1000000) (l3 : C.ps.length < 1000000) (l4 : ∀ o ∈ C.os, o.ls.length < 1000000) :
    CallsH Tryz.prog 8 [.agg C.enc.toArray] h0 fun v h' => v = .bool (dcd (okCfg C)) ∧ Fr h0 h' [] := by
  have S := St.nil h0
  have r' : ∀ {h' : Heap} {l : List HP}, St h0 h' l → C.rd h' := fun S => r.fr S.fr
  (refine enterK c_recoupref05_RightConfig (Nat.le_of_ble_eq_true rfl) fun K hK => ?_; (try simp (maxSteps := 1000000) (disch := first | omega | assumption | exact Nat.le_of_ble_eq_true rfl) only [go_sem, ↓mwp_block, simprocAttr, ir_recoupref05_RightConfig]))
  (refine st_alloc S ?_; clear S; intro g h S; (try simp only [splice_cons, splice_nil, List.set_cons_zero, List.set_cons_succ, Nat.zero_add, Nat.reduceAdd, List.cons_append, List.nil_append] at S); ((try clear F); have F := S.all; (try simp only [all_cons, all_nil, says_cell, and_true] at F)))
  (try simp (maxSteps := 1000000) (disch := first | omega | assumption | exact Nat.le_of_ble_eq_true rfl) only [go_sem, ↓mwp_block, simprocAttr, F, Cfg.enc])
  refine call_intro (RightTable_ok (r' S).ps (by omega)) ?_
  rintro _ h ⟨rfl, hf⟩
  have S := S.frame hf
  by_cases d1 : RightT C.ps
  case neg =>
    rw [dcd_false d1]
    (try simp (maxSteps := 1000000) (disch := first | omega | assumption | exact Nat.le_of_ble_eq_true rfl) only [go_sem, ↓mwp_block, simprocAttr])
    exact hK _ _ ⟨by rw [dcd_false (fun h => d1 h.1)], S.fr⟩
  rw [dcd_true d1]
  ((try clear F); have F := S.all; (try simp only [all_cons, all_nil, says_cell, and_true] at F))
  by_cases d2 : 20 < (C.os.length : Int)
  · (try simp (maxSteps := 1000000) (disch := first | omega | assumption | exact Nat.le_of_ble_eq_true rfl) only [go_sem, ↓mwp_block, simprocAttr, F, Cfg.enc, d2])
    exact hK _ _ ⟨by rw [dcd_false (fun h => by have := h.2.1; omega)], S.fr⟩
  by_cases d3 : 20 < (C.ss.length : Int)
  · (try simp (maxSteps := 1000000) (disch := first | omega | assumption | exact Nat.le_of_ble_eq_true rfl) only [go_sem, ↓mwp_block, simprocAttr, F, Cfg.enc, d2, d3])
    exact hK _ _ ⟨by rw [dcd_false (fun h => by have := h.2.2.1; omega)], S.fr⟩
  (try simp (maxSteps := 1000000) (disch := first | omega | assumption | exact Nat.le_of_ble_eq_true rfl) only [go_sem, ↓mwp_block, simprocAttr, F, Cfg.enc, d2, d3])
  refine loop_intro (fun ρ h' => ρ 1 = .pointer (some ⟨g, 0, none⟩) ∧ ρ 30 = .int .i64 C.os.length ∧ ∃ i : Nat, ρ 31 = .int .i64 i ∧ i ≤ C.os.length ∧ (∀ o ∈ C.os.take i, okOrder C.ps.length o) ∧ ρ 3 = .int .i64 (ordSum (C.os.take i)) ∧
    St h0 h' [cellA g C.enc 26]) (fun ρ _ => C.os.length - (iv (ρ 31)).toNat) ?_ ?_
  · (try simp (maxSteps := 1000000) (disch := first | omega | assumption | exact Nat.le_of_ble_eq_true rfl) only [go_sem, ↓mwp_block, simprocAttr])
    exact ⟨0, rfl, by omega, by simp, rfl, S⟩
  clear S F
  rintro ρ h J hJ ⟨e1, e30, i, e31, hi, hok, e3, S⟩
  (try simp (maxSteps := 1000000) (disch := first | omega | assumption | exact Nat.le_of_ble_eq_true rfl) only [go_sem, ↓mwp_block, simprocAttr, e30, e31])
  refine cond_dec (fun hlt => ?_) (fun hlt => ?_)
  · have hil : i < C.os.length := by omega
    obtain ⟨b, off, hA, hr1⟩ := (r' S).os.at hil
    have hmem := List.getElem_mem hil
    have hlb := ord_bound hok
    have hlen : (C.os.take i).length ≤ 20 := by rw [List.length_take]; omega
    have hs1 := ordSum_snoc hil
    have hll := l4 _ hmem
    have hrl := fun {h'} {l'} (S : St h0 h' l') => (r' S).ls _ hmem
    have hbad : ¬ okOrder C.ps.length C.os[i] → ¬ okCfg C := fun hn h => hn (h.2.2.2.1 _ hmem)
    have htk : okOrder C.ps.length C.os[i] → ∀ o ∈ C.os.take (i + 1), okOrder C.ps.length o := fun hx o ho => by
      rw [List.take_succ_eq_append_getElem hil] at ho
      rcases List.mem_append.1 ho with ho | ho
      · exact hok o ho
      · rw [List.mem_singleton] at ho; rw [ho]; exact hx
    generalize C.os[i] = o at *
    ((try clear F); have F := S.all; (try simp only [all_cons, all_nil, says_cell, and_true] at F))
    (try simp (maxSteps := 1000000) (disch := first | omega | assumption | exact Nat.le_of_ble_eq_true rfl) only [go_sem, ↓mwp_block, simprocAttr, e1, e31, F, Cfg.enc, hA, hr1])
    (refine st_alloc S ?_; clear S; intro q h S; (try simp only [splice_cons, splice_nil, List.set_cons_zero, List.set_cons_succ, Nat.zero_add, Nat.reduceAdd, List.cons_append, List.nil_append] at S); ((try clear F); have F := S.all; (try simp only [all_cons, all_nil, says_cell, and_true] at F)))
    (try simp (maxSteps := 1000000) (disch := first | omega | assumption | exact Nat.le_of_ble_eq_true rfl) only [go_sem, ↓mwp_block, simprocAttr, F, Odr.enc])
    (refine st_store (by first | exact S | exact S.p1 | exact S.p2 | exact S.p3 | exact S.p4 | exact S.p5 | exact S.p6 | exact S.p7 | exact S.p8 | exact S.p9 | exact S.p10 | exact S.p11) (by rfl) (by rfl) (Nat.le_of_ble_eq_true rfl) ?_; clear S; intro h S; (try simp only [splice_cons, splice_nil, List.set_cons_zero, List.set_cons_succ, Nat.zero_add, Nat.reduceAdd, List.cons_append, List.nil_append] at S); ((try clear F); have F := S.all; (try simp only [all_cons, all_nil, says_cell, and_true] at F)))
    by_cases d1 : o.day < 0
    · (try simp (maxSteps := 1000000) (disch := first | omega | assumption | exact Nat.le_of_ble_eq_true rfl) only [go_sem, ↓mwp_block, simprocAttr, F, d1])
      exact hK _ _ ⟨by rw [dcd_false (hbad fun h => by have := h.1.1.1; omega)], S.fr⟩
    by_cases d2 : 100000 < o.day
    · (try simp (maxSteps := 1000000) (disch := first | omega | assumption | exact Nat.le_of_ble_eq_true rfl) only [go_sem, ↓mwp_block, simprocAttr, F, d1, d2])
      exact hK _ _ ⟨by rw [dcd_false (hbad fun h => by have := h.1.1.2; omega)], S.fr⟩
    by_cases d3 : (o.ls.length : Int) < 1
    · (try simp (maxSteps := 1000000) (disch := first | omega | assumption | exact Nat.le_of_ble_eq_true rfl) only [go_sem, ↓mwp_block, simprocAttr, F, d1, d2, d3])
      exact hK _ _ ⟨by rw [dcd_false (hbad fun h => by have := h.1.2.1.1; omega)], S.fr⟩
    by_cases d4 : 8 < (o.ls.length : Int)
    · (try simp (maxSteps := 1000000) (disch := first | omega | assumption | exact Nat.le_of_ble_eq_true rfl) only [go_sem, ↓mwp_block, simprocAttr, F, d1, d2, d3, d4])
      exact hK _ _ ⟨by rw [dcd_false (hbad fun h => by have := h.1.2.1.2; omega)], S.fr⟩
    (try simp (maxSteps := 1000000) (disch := first | omega | assumption | exact Nat.le_of_ble_eq_true rfl) only [go_sem, ↓mwp_block, simprocAttr, F, d1, d2, d3, d4])
    refine call_intro (rprice_ok _ _) ?_
    rintro _ _ ⟨rfl, rfl⟩
    by_cases d5 : okPrice o.disc
    case neg =>
      rw [dcd_false d5]
      (try simp (maxSteps := 1000000) (disch := first | omega | assumption | exact Nat.le_of_ble_eq_true rfl) only [go_sem, ↓mwp_block, simprocAttr])
      exact hK _ _ ⟨by rw [dcd_false (hbad fun h => d5 h.1.2.2.1)], S.fr⟩
    rw [dcd_true d5]
    (try simp (maxSteps := 1000000) (disch := first | omega | assumption | exact Nat.le_of_ble_eq_true rfl) only [go_sem, ↓mwp_block, simprocAttr, F])
    refine call_intro (rprice_ok _ _) ?_
    rintro _ _ ⟨rfl, rfl⟩
    by_cases d6 : okPrice o.tax
    case neg =>
      rw [dcd_false d6]
      (try simp (maxSteps := 1000000) (disch := first | omega | assumption | exact Nat.le_of_ble_eq_true rfl) only [go_sem, ↓mwp_block, simprocAttr])
      exact hK _ _ ⟨by rw [dcd_false (hbad fun h => d6 h.1.2.2.2.1)], S.fr⟩
    rw [dcd_true d6]
    (try simp (maxSteps := 1000000) (disch := first | omega | assumption | exact Nat.le_of_ble_eq_true rfl) only [go_sem, ↓mwp_block, simprocAttr, F])
    refine call_intro (rprice_ok _ _) ?_
    rintro _ _ ⟨rfl, rfl⟩
    by_cases d7 : okPrice o.ship
    case neg =>
      rw [dcd_false d7]
      (try simp (maxSteps := 1000000) (disch := first | omega | assumption | exact Nat.le_of_ble_eq_true rfl) only [go_sem, ↓mwp_block, simprocAttr])
      exact hK _ _ ⟨by rw [dcd_false (hbad fun h => d7 h.1.2.2.2.2)], S.fr⟩
    rw [dcd_true d7]
    have hhead : okHead o := ⟨⟨by omega, by omega⟩, ⟨by omega, by omega⟩, d5, d6, d7⟩
    (try simp (maxSteps := 1000000) (disch := first | omega | assumption | exact Nat.le_of_ble_eq_true rfl) only [go_sem, ↓mwp_block, simprocAttr, F])
    refine loop_intro (fun ρ' h' => ρ' 1 = .pointer (some ⟨g, 0, none⟩) ∧ ρ' 30 = .int .i64 C.os.length ∧ ρ' 31 = .int .i64 i ∧ ρ' 5 = .pointer (some ⟨q, 0, none⟩) ∧ ρ' 79 = .int .i64 o.ls.length ∧ ∃ k : Nat, ρ' 80 = .int .i64 k ∧ k ≤ o.ls.length ∧ (∀ l ∈ o.ls.take k, okLine C.ps.length l) ∧ ρ' 3 = .int .i64 (ordSum (C.os.take i) + cntOf (o.ls.take k)) ∧ ρ' 6 = .int .i64 (allOf (o.ls.take k)) ∧
      St h0 h' [cellA q o.enc 66, cellA g C.enc 26]) (fun ρ' _ => o.ls.length - (iv (ρ' 80)).toNat) ?_ ?_
    · (try simp (maxSteps := 1000000) (disch := first | omega | assumption | exact Nat.le_of_ble_eq_true rfl) only [go_sem, ↓mwp_block, simprocAttr, e1, e30, e31, e3])
      exact ⟨0, rfl, by omega, by simp, by simp [cntOf], rfl, S⟩
    have p31 := e31
    clear S F e1 e30 e31 e3 hr1
    rintro ρ' h J' hJ' ⟨e1, e30, e31, e5, e79, k, e80, hk, hlk, e3, e6, S⟩
    (try simp (maxSteps := 1000000) (disch := first | omega | assumption | exact Nat.le_of_ble_eq_true rfl) only [go_sem, ↓mwp_block, simprocAttr, e79, e80])
    refine cond_dec (fun hlt2 => ?_) (fun hlt2 => ?_)
    · have hkl : k < o.ls.length := by omega
      obtain ⟨b2, off2, hA2, hr2⟩ := (hrl S).at hkl
      have hlb2 := all_bound hlk
      have hlen2 : (o.ls.take k).length ≤ 8 := by rw [List.length_take]; omega
      have hm2 := List.getElem_mem hkl
      have hs3 := allOf_snoc hkl
      have hs4 := cntOf_snoc hkl
      have hbad2 : ¬ okLine C.ps.length o.ls[k] → ¬ okCfg C := fun hn => hbad fun h => hn (h.2.1 _ hm2)
      have htk2 : okLine C.ps.length o.ls[k] → ∀ l ∈ o.ls.take (k + 1), okLine C.ps.length l := fun hx l hl => by
        rw [List.take_succ_eq_append_getElem hkl] at hl
        rcases List.mem_append.1 hl with hl | hl
        · exact hlk l hl
        · rw [List.mem_singleton] at hl; rw [hl]; exact hx
      generalize o.ls[k] = x at *
      ((try clear F); have F := S.all; (try simp only [all_cons, all_nil, says_cell, and_true] at F))
      (try simp (maxSteps := 1000000) (disch := first | omega | assumption | exact Nat.le_of_ble_eq_true rfl) only [go_sem, ↓mwp_block, simprocAttr, e5, e80, F, Odr.enc, hA2, hr2])
      (refine st_alloc S ?_; clear S; intro p h S; (try simp only [splice_cons, splice_nil, List.set_cons_zero, List.set_cons_succ, Nat.zero_add, Nat.reduceAdd, List.cons_append, List.nil_append] at S); ((try clear F); have F := S.all; (try simp only [all_cons, all_nil, says_cell, and_true] at F)))
      (try simp (maxSteps := 1000000) (disch := first | omega | assumption | exact Nat.le_of_ble_eq_true rfl) only [go_sem, ↓mwp_block, simprocAttr, F, Lin.enc])
      (refine st_store (by first | exact S | exact S.p1 | exact S.p2 | exact S.p3 | exact S.p4 | exact S.p5 | exact S.p6 | exact S.p7 | exact S.p8 | exact S.p9 | exact S.p10 | exact S.p11) (by rfl) (by rfl) (Nat.le_of_ble_eq_true rfl) ?_; clear S; intro h S; (try simp only [splice_cons, splice_nil, List.set_cons_zero, List.set_cons_succ, Nat.zero_add, Nat.reduceAdd, List.cons_append, List.nil_append] at S); ((try clear F); have F := S.all; (try simp only [all_cons, all_nil, says_cell, and_true] at F)))
      by_cases c1 : x.sku < 1
      · (try simp (maxSteps := 1000000) (disch := first | omega | assumption | exact Nat.le_of_ble_eq_true rfl) only [go_sem, ↓mwp_block, simprocAttr, F, c1])
        exact hK _ _ ⟨by rw [dcd_false (hbad2 fun h => by have := h.1.1.1; omega)], S.fr⟩
      by_cases c2 : 1000 < x.sku
      · (try simp (maxSteps := 1000000) (disch := first | omega | assumption | exact Nat.le_of_ble_eq_true rfl) only [go_sem, ↓mwp_block, simprocAttr, F, c1, c2])
        exact hK _ _ ⟨by rw [dcd_false (hbad2 fun h => by have := h.1.1.2; omega)], S.fr⟩
      by_cases c3 : x.cat < 0
      · (try simp (maxSteps := 1000000) (disch := first | omega | assumption | exact Nat.le_of_ble_eq_true rfl) only [go_sem, ↓mwp_block, simprocAttr, F, c1, c2, c3])
        exact hK _ _ ⟨by rw [dcd_false (hbad2 fun h => by have := h.2.1; omega)], S.fr⟩
      by_cases c4 : (C.ps.length : Int) ≤ x.cat
      · (try simp (maxSteps := 1000000) (disch := first | omega | assumption | exact Nat.le_of_ble_eq_true rfl) only [go_sem, ↓mwp_block, simprocAttr, F, c1, c2, c3, e1, Cfg.enc, c4])
        exact hK _ _ ⟨by rw [dcd_false (hbad2 fun h => by have := h.2.2; omega)], S.fr⟩
      (try simp (maxSteps := 1000000) (disch := first | omega | assumption | exact Nat.le_of_ble_eq_true rfl) only [go_sem, ↓mwp_block, simprocAttr, F, c1, c2, c3, e1, Cfg.enc, c4])
      refine call_intro (rprice_ok _ _) ?_
      rintro _ _ ⟨rfl, rfl⟩
      by_cases c5 : okPrice x.price
      case neg =>
        rw [dcd_false c5]
        (try simp (maxSteps := 1000000) (disch := first | omega | assumption | exact Nat.le_of_ble_eq_true rfl) only [go_sem, ↓mwp_block, simprocAttr])
        exact hK _ _ ⟨by rw [dcd_false (hbad2 fun h => c5 h.1.2.1)], S.fr⟩
      rw [dcd_true c5]
      by_cases c6 : x.count < 1
      · (try simp (maxSteps := 1000000) (disch := first | omega | assumption | exact Nat.le_of_ble_eq_true rfl) only [go_sem, ↓mwp_block, simprocAttr, F, c6])
        exact hK _ _ ⟨by rw [dcd_false (hbad2 fun h => by have := h.1.2.2.1; omega)], S.fr⟩
      by_cases c7 : 50 < x.count
      · (try simp (maxSteps := 1000000) (disch := first | omega | assumption | exact Nat.le_of_ble_eq_true rfl) only [go_sem, ↓mwp_block, simprocAttr, F, c6, c7])
        exact hK _ _ ⟨by rw [dcd_false (hbad2 fun h => by have := h.1.2.2.2; omega)], S.fr⟩
      have hx : okLine C.ps.length x := ⟨⟨⟨by omega, by omega⟩, c5, by omega, by omega⟩, by omega, by omega⟩
      have hxb := line_bound hx
      have w1 : IntKind.i64.wrap (ordSum (C.os.take i) + cntOf (o.ls.take k) + x.count) = ordSum (C.os.take i) + cntOf (o.ls.take k) + x.count := wrap_i64 (by omega) (by omega)
      have w2 : IntKind.i64.wrap (x.price * x.count) = x.price * x.count := wrap_i64 (by omega) (by omega)
      have w3 : IntKind.i64.wrap (allOf (o.ls.take k) + x.price * x.count) = allOf (o.ls.take k) + x.price * x.count := wrap_i64 (by omega) (by omega)
      (try simp (maxSteps := 1000000) (disch := first | omega | assumption | exact Nat.le_of_ble_eq_true rfl) only [go_sem, ↓mwp_block, simprocAttr, F, c6, c7, e3, e6, w1, w2, w3, e80])
      refine hJ' _ _ ?_ ?_
      · (try simp (maxSteps := 1000000) (disch := first | omega | assumption | exact Nat.le_of_ble_eq_true rfl) only [go_sem, ↓mwp_block, simprocAttr, e1, e30, e31, e5, e79])
        exact ⟨k + 1, rfl, by omega, htk2 hx, by rw [hs4, Int.add_assoc], by rw [hs3], S.tl⟩
      · (try simp (maxSteps := 1000000) (disch := first | omega | assumption | exact Nat.le_of_ble_eq_true rfl) only [go_sem, ↓mwp_block, simprocAttr, e80])
        omega
    · obtain rfl : k = o.ls.length := by omega
      rw [List.take_length] at hlk e3 e6
      ((try clear F); have F := S.all; (try simp only [all_cons, all_nil, says_cell, and_true] at F))
      by_cases c8 : allOf o.ls < o.disc
      · (try simp (maxSteps := 1000000) (disch := first | omega | assumption | exact Nat.le_of_ble_eq_true rfl) only [go_sem, ↓mwp_block, simprocAttr, e5, F, Odr.enc, e6, c8])
        exact hK _ _ ⟨by rw [dcd_false (hbad fun h => by have := h.2.2; omega)], S.fr⟩
      have hoo : okOrder C.ps.length o := ⟨hhead, hlk, by omega⟩
      (try simp (maxSteps := 1000000) (disch := first | omega | assumption | exact Nat.le_of_ble_eq_true rfl) only [go_sem, ↓mwp_block, simprocAttr, e5, F, Odr.enc, e6, c8, e31])
      refine hJ _ _ ?_ ?_
      · (try simp (maxSteps := 1000000) (disch := first | omega | assumption | exact Nat.le_of_ble_eq_true rfl) only [go_sem, ↓mwp_block, simprocAttr, e1, e30])
        exact ⟨i + 1, rfl, by omega, htk hoo, by rw [hs1]; exact e3, S.tl⟩
      · (try simp (maxSteps := 1000000) (disch := first | omega | assumption | exact Nat.le_of_ble_eq_true rfl) only [go_sem, ↓mwp_block, simprocAttr, p31])
        omega
  obtain rfl : i = C.os.length := by omega
  rw [List.take_length] at hok e3
  clear hJ
  have hob := ord_bound hok
  ((try clear F); have F := S.all; (try simp only [all_cons, all_nil, says_cell, and_true] at F))
  (try simp (maxSteps := 1000000) (disch := first | omega | assumption | exact Nat.le_of_ble_eq_true rfl) only [go_sem, ↓mwp_block, simprocAttr, e1, F, Cfg.enc])
  refine loop_intro (fun ρ h' => ρ 1 = .pointer (some ⟨g, 0, none⟩) ∧ ρ 144 = .int .i64 C.ss.length ∧ ∃ i : Nat, ρ 145 = .int .i64 i ∧ i ≤ C.ss.length ∧ okSups (C.ss.take i) ∧ ρ 3 = .int .i64 (ordSum C.os + supSum (C.ss.take i)) ∧
    St h0 h' [cellA g C.enc 26]) (fun ρ _ => C.ss.length - (iv (ρ 145)).toNat) ?_ ?_
  · (try simp (maxSteps := 1000000) (disch := first | omega | assumption | exact Nat.le_of_ble_eq_true rfl) only [go_sem, ↓mwp_block, simprocAttr, e1, e3])
    exact ⟨0, rfl, by omega, ⟨by simp, by simp⟩, by simp [supSum], S⟩
  clear S F e1 e30 e31 e3
  rintro ρ h J hJ ⟨e1, e144, i, e145, hi, hsu, e3, S⟩
  (try simp (maxSteps := 1000000) (disch := first | omega | assumption | exact Nat.le_of_ble_eq_true rfl) only [go_sem, ↓mwp_block, simprocAttr, e144, e145])
  refine cond_dec (fun hlt => ?_) (fun hlt => ?_)
  · have hil : i < C.ss.length := by omega
    obtain ⟨b, off, hA, hr1⟩ := (r' S).ss.at hil
    have hsb := sup_bound hsu.1
    have hlen : (C.ss.take i).length ≤ 20 := by rw [List.length_take]; omega
    have hs1 := supSum_snoc hil
    have hno := fun h : okCfg C => sups_no hil h.2.2.2.2.1
    have hsn := sups_snoc hil hsu
    generalize C.ss[i] = x at *
    ((try clear F); have F := S.all; (try simp only [all_cons, all_nil, says_cell, and_true] at F))
    (try simp (maxSteps := 1000000) (disch := first | omega | assumption | exact Nat.le_of_ble_eq_true rfl) only [go_sem, ↓mwp_block, simprocAttr, e1, e145, F, Cfg.enc, hA, hr1])
    (refine st_alloc S ?_; clear S; intro q h S; (try simp only [splice_cons, splice_nil, List.set_cons_zero, List.set_cons_succ, Nat.zero_add, Nat.reduceAdd, List.cons_append, List.nil_append] at S); ((try clear F); have F := S.all; (try simp only [all_cons, all_nil, says_cell, and_true] at F)))
    (try simp (maxSteps := 1000000) (disch := first | omega | assumption | exact Nat.le_of_ble_eq_true rfl) only [go_sem, ↓mwp_block, simprocAttr, F, Sup.enc])
    (refine st_store (by first | exact S | exact S.p1 | exact S.p2 | exact S.p3 | exact S.p4 | exact S.p5 | exact S.p6 | exact S.p7 | exact S.p8 | exact S.p9 | exact S.p10 | exact S.p11) (by rfl) (by rfl) (Nat.le_of_ble_eq_true rfl) ?_; clear S; intro h S; (try simp only [splice_cons, splice_nil, List.set_cons_zero, List.set_cons_succ, Nat.zero_add, Nat.reduceAdd, List.cons_append, List.nil_append] at S); ((try clear F); have F := S.all; (try simp only [all_cons, all_nil, says_cell, and_true] at F)))
    by_cases c1 : x.sku < 1
    · (try simp (maxSteps := 1000000) (disch := first | omega | assumption | exact Nat.le_of_ble_eq_true rfl) only [go_sem, ↓mwp_block, simprocAttr, F, c1])
      exact hK _ _ ⟨by rw [dcd_false (fun h => by have := (hno h).1.1.1; omega)], S.fr⟩
    by_cases c2 : 1000 < x.sku
    · (try simp (maxSteps := 1000000) (disch := first | omega | assumption | exact Nat.le_of_ble_eq_true rfl) only [go_sem, ↓mwp_block, simprocAttr, F, c1, c2])
      exact hK _ _ ⟨by rw [dcd_false (fun h => by have := (hno h).1.1.2; omega)], S.fr⟩
    (try simp (maxSteps := 1000000) (disch := first | omega | assumption | exact Nat.le_of_ble_eq_true rfl) only [go_sem, ↓mwp_block, simprocAttr, F, c1, c2])
    refine call_intro (rprice_ok _ _) ?_
    rintro _ _ ⟨rfl, rfl⟩
    by_cases c5 : okPrice x.price
    case neg =>
      rw [dcd_false c5]
      (try simp (maxSteps := 1000000) (disch := first | omega | assumption | exact Nat.le_of_ble_eq_true rfl) only [go_sem, ↓mwp_block, simprocAttr])
      exact hK _ _ ⟨by rw [dcd_false (fun h => c5 (hno h).1.2.1)], S.fr⟩
    rw [dcd_true c5]
    by_cases c6 : x.count < 1
    · (try simp (maxSteps := 1000000) (disch := first | omega | assumption | exact Nat.le_of_ble_eq_true rfl) only [go_sem, ↓mwp_block, simprocAttr, F, c6])
      exact hK _ _ ⟨by rw [dcd_false (fun h => by have := (hno h).1.2.2.1; omega)], S.fr⟩
    by_cases c7 : 50 < x.count
    · (try simp (maxSteps := 1000000) (disch := first | omega | assumption | exact Nat.le_of_ble_eq_true rfl) only [go_sem, ↓mwp_block, simprocAttr, F, c6, c7])
      exact hK _ _ ⟨by rw [dcd_false (fun h => by have := (hno h).1.2.2.2; omega)], S.fr⟩
    have hx : okSup x := ⟨⟨by omega, by omega⟩, c5, by omega, by omega⟩
    (try simp (maxSteps := 1000000) (disch := first | omega | assumption | exact Nat.le_of_ble_eq_true rfl) only [go_sem, ↓mwp_block, simprocAttr, F, c6, c7])
    refine loop_intro (fun ρ' h' => ρ' 1 = .pointer (some ⟨g, 0, none⟩) ∧ ρ' 144 = .int .i64 C.ss.length ∧ ρ' 145 = .int .i64 i ∧ ρ' 3 = ρ 3 ∧ ρ' 10 = .pointer (some ⟨q, 0, none⟩) ∧ ρ' 177 = .int .i64 i ∧ ∃ k : Nat, ρ' 178 = .int .i64 k ∧ k ≤ i ∧ (∀ y ∈ C.ss.take k, y.sku ≠ x.sku) ∧
      St h0 h' [cellA q x.enc 71, cellA g C.enc 26]) (fun ρ' _ => i - (iv (ρ' 178)).toNat) ?_ ?_
    · (try simp (maxSteps := 1000000) (disch := first | omega | assumption | exact Nat.le_of_ble_eq_true rfl) only [go_sem, ↓mwp_block, simprocAttr, e1, e144, e145])
      exact ⟨0, rfl, by omega, by simp, S⟩
    have p145 := e145
    clear S F e1 e144 e145 hr1
    rintro ρ' h J' hJ' ⟨e1, e144, e145, q3, e10, e177, k, e178, hk, hne, S⟩
    (try simp (maxSteps := 1000000) (disch := first | omega | assumption | exact Nat.le_of_ble_eq_true rfl) only [go_sem, ↓mwp_block, simprocAttr, e177, e178])
    refine cond_dec (fun hlt2 => ?_) (fun hlt2 => ?_)
    · have hki : k < i := by omega
      have hkl : k < C.ss.length := by omega
      obtain ⟨b2, off2, hA2, hr2⟩ := (r' S).ss.at hkl
      have hm2 : C.ss[k] ∈ C.ss.take i := by
        have := List.getElem_mem (l := C.ss.take i) (n := k) (by rw [List.length_take]; omega)
        rw [List.getElem_take] at this
        exact this
      have htk2 : ¬ (C.ss[k]).sku = x.sku → ∀ y ∈ C.ss.take (k + 1), y.sku ≠ x.sku := fun hx y hy => by
        rw [List.take_succ_eq_append_getElem hkl] at hy
        rcases List.mem_append.1 hy with hy | hy
        · exact hne y hy
        · rw [List.mem_singleton] at hy; rw [hy]; exact hx
      generalize C.ss[k] = y at *
      have hr2 := rd1_part0 hr2 (by decide)
      simp only [Sup.enc, List.getElem?_cons_zero] at hr2
      ((try clear F); have F := S.all; (try simp only [all_cons, all_nil, says_cell, and_true] at F))
      by_cases c8 : y.sku = x.sku
      · (try simp (maxSteps := 1000000) (disch := first | omega | assumption | exact Nat.le_of_ble_eq_true rfl) only [go_sem, ↓mwp_block, simprocAttr])
        refine draw_eq ?_
        (try simp (maxSteps := 1000000) (disch := first | omega | assumption | exact Nat.le_of_ble_eq_true rfl) only [go_sem, ↓mwp_block, simprocAttr, e1, e178, F, Cfg.enc, hA2, hr2, Sup.enc, e10, c8])
        exact hK _ _ ⟨by rw [dcd_false (fun h => (hno h).2 ⟨y, hm2, c8⟩)], S.fr⟩
      · (try simp (maxSteps := 1000000) (disch := first | omega | assumption | exact Nat.le_of_ble_eq_true rfl) only [go_sem, ↓mwp_block, simprocAttr])
        refine draw_eq ?_
        (try simp (maxSteps := 1000000) (disch := first | omega | assumption | exact Nat.le_of_ble_eq_true rfl) only [go_sem, ↓mwp_block, simprocAttr, e1, e178, F, Cfg.enc, hA2, hr2, Sup.enc, e10, c8])
        refine hJ' _ _ ?_ ?_
        · (try simp (maxSteps := 1000000) (disch := first | omega | assumption | exact Nat.le_of_ble_eq_true rfl) only [go_sem, ↓mwp_block, simprocAttr, e1, e144, e145, q3, e10, e177])
          exact ⟨k + 1, rfl, by omega, htk2 c8, S⟩
        · (try simp (maxSteps := 1000000) (disch := first | omega | assumption | exact Nat.le_of_ble_eq_true rfl) only [go_sem, ↓mwp_block, simprocAttr, e178])
          omega
    · obtain rfl : k = i := by omega
      ((try clear F); have F := S.all; (try simp only [all_cons, all_nil, says_cell, and_true] at F))
      have w1 : IntKind.i64.wrap (ordSum C.os + supSum (C.ss.take k) + x.count) = ordSum C.os + supSum (C.ss.take k) + x.count := wrap_i64 (by omega) (by omega)
      (try simp (maxSteps := 1000000) (disch := first | omega | assumption | exact Nat.le_of_ble_eq_true rfl) only [go_sem, ↓mwp_block, simprocAttr, q3, e3, e10, F, Sup.enc, w1, e145])
      refine hJ _ _ ?_ ?_
      · (try simp (maxSteps := 1000000) (disch := first | omega | assumption | exact Nat.le_of_ble_eq_true rfl) only [go_sem, ↓mwp_block, simprocAttr, e1, e144])
        exact ⟨k + 1, rfl, by omega, hsn hx (by rintro ⟨y, hy, e⟩; exact hne y hy e), by rw [hs1, Int.add_assoc], S.tl⟩
      · (try simp (maxSteps := 1000000) (disch := first | omega | assumption | exact Nat.le_of_ble_eq_true rfl) only [go_sem, ↓mwp_block, simprocAttr, p145])
        omega
  obtain rfl : i = C.ss.length := by omega
  rw [List.take_length] at hsu e3
  (try simp (maxSteps := 1000000) (disch := first | omega | assumption | exact Nat.le_of_ble_eq_true rfl) only [go_sem, ↓mwp_block, simprocAttr, e3])
  exact hK _ _ ⟨congrArg Value.bool (congrArg dcd (propext ⟨fun h => ⟨d1, by omega, by omega, hok, hsu, h⟩, fun h => h.2.2.2.2.2⟩)), S.fr⟩
end Go.Proofs.YtblalmgahfbalaaGreat.MX

/- Orders: all units of a config. -/
namespace Go.Proofs.YtblalmgahfbalaaGreat.MX
open Go Go.Proofs
set_option linter.unusedSimpArgs false
set_option linter.unusedVariables false
set_option maxHeartbeats 8000000
theorem cnt_le {k : Int} : ∀ {os : List Odr}, (∀ o ∈ os, okOrder k o) → ∀ o ∈ os, cntOf o.ls ≤ ordSum os
  | [], _, o, ho => by cases ho
  | x :: os, h, o, ho => by
    have h1 := all_bound (h x (by simp)).2.1
    have h2 := ord_bound (os := os) fun y hy => h y (by simp [hy])
    have h3 := cnt_le (os := os) fun y hy => h y (by simp [hy])
    simp only [ordSum, List.map_cons, List.sum_cons] at h2 h3 ⊢
    rcases List.mem_cons.1 ho with rfl | ho
    · omega
    · have := h3 o ho; omega
theorem okCfg.okO {C : Cfg} (h : okCfg C) : ∀ o ∈ C.os, OkO o := fun o ho => by
  obtain ⟨_, h1, h2, h3, h4, h5⟩ := h
  obtain ⟨⟨_, ⟨n0, n1⟩, d, t, s⟩, hl, hd⟩ := h3 o ho
  have hc := cnt_le h3 o ho
  have hs := sup_bound h4.1
  have ht : totOf C = ordSum C.os + supSum C.ss := rfl
  exact ⟨⟨_, hl⟩, n0, n1, by omega, d, t, s, hd⟩
theorem unitsOf_len {o : Odr} (h : OkO o) (i : Int) : ((unitsOf o i).length : Int) = cntOf o.ls := by
  rw [unitsOf, unitsR_len h, (len_sum o.ls h.count).1]
theorem ordsU_len : ∀ {os : List Odr} (i : Nat), (∀ o ∈ os, OkO o) → ((ordsU i os).length : Int) = ordSum os
  | [], i, _ => rfl
  | x :: os, i, h => by
    have h1 := unitsOf_len (h x (by simp)) i
    have h2 := ordsU_len (os := os) (i + 1) fun y hy => h y (by simp [hy])
    simp only [ordsU, List.length_append, ordSum, List.map_cons, List.sum_cons] at h2 ⊢
    omega
theorem ordsU_snoc {os : List Odr} {i : Nat} (hi : i < os.length) : ordsU 0 (os.take (i + 1)) = ordsU 0 (os.take i) ++ unitsOf os[i] i := by
  rw [List.take_succ_eq_append_getElem hi, ordsU_app, List.length_take, Nat.min_eq_left (by omega)]
  simp [ordsU]
theorem supU_snoc {ss : List Sup} {i : Nat} (hi : i < ss.length) : (ss.take (i + 1)).flatMap supU = (ss.take i).flatMap supU ++ supU ss[i] := by
  rw [List.take_succ_eq_append_getElem hi, List.flatMap_append]
  simp
theorem supU_len : ∀ {ss : List Sup}, (∀ s ∈ ss, okSup s) → ((ss.flatMap supU).length : Int) = supSum ss
  | [], _ => rfl
  | x :: ss, h => by
    have h1 := (h x (by simp)).2.2
    have h2 := supU_len (ss := ss) fun y hy => h y (by simp [hy])
    simp only [List.flatMap_cons, List.length_append, supU, List.length_replicate, supSum, List.map_cons, List.sum_cons] at h2 ⊢
    omega
theorem sumTake_le {k : Int} {os : List Odr} (h : ∀ o ∈ os, okOrder k o) (i : Nat) : ordSum (os.take i) ≤ ordSum os := by
  have h1 := ord_bound (os := os.drop i) fun o ho => h o (List.mem_of_mem_drop ho)
  have : ordSum os = ordSum (os.take i) + ordSum (os.drop i) := by
    conv => lhs; rw [← List.take_append_drop i os]
    rw [ordSum, List.map_append, List.sum_append]; rfl
  omega
theorem supTake_le {ss : List Sup} (h : ∀ s ∈ ss, okSup s) (i : Nat) : supSum (ss.take i) ≤ supSum ss := by
  have h1 := sup_bound (ss := ss.drop i) fun o ho => h o (List.mem_of_mem_drop ho)
  have : supSum ss = supSum (ss.take i) + supSum (ss.drop i) := by
    conv => lhs; rw [← List.take_append_drop i ss]
    rw [supSum, List.map_append, List.sum_append]; rfl
  omega
section
variable {h0 h : Heap} {l : List HP}
theorem OUnits_ok (C : Cfg) (r : ∀ h', St h0 h' l → C.rd h') (w : C.wf) (l1 : C.os.length < 1000000) (l2 : C.ss.length < 1000000) (l3 : C.ps.length < 1000000) (l4 : ∀ o ∈ C.os, o.ls.length < 1000000) (S : St h0 h l) :
    CallsH Tryz.prog 18 [.agg C.enc.toArray] h fun v h' => (¬ okCfg C ∧ v = .tuple #[.slice none 0 0, .int .i64 1] ∧ St h0 h' l) ∨ (okCfg C ∧ ∃ s, v = .tuple #[s, .int .i64 0] ∧ St h0 h' (ownA Unt.enc 4 76 s (unitsAll C) :: l)) := by
  (refine enterK c_order_Units (Nat.le_of_ble_eq_true rfl) fun K hK => ?_; (try simp (maxSteps := 1000000) (disch := first | omega | assumption | exact Nat.le_of_ble_eq_true rfl) only [go_sem, ↓mwp_block, simprocAttr, ir_order_Units]))
  (refine st_alloc S ?_; clear S; intro g h S; (try simp only [splice_cons, splice_nil, List.set_cons_zero, List.set_cons_succ, Nat.zero_add, Nat.reduceAdd, List.cons_append, List.nil_append] at S); ((try clear F); have F := S.all; (try simp only [all_cons, all_nil, says_cell, and_true] at F)))
  (try simp (maxSteps := 1000000) (disch := first | omega | assumption | exact Nat.le_of_ble_eq_true rfl) only [go_sem, ↓mwp_block, simprocAttr, F, Cfg.enc])
  have hR := ORight_ok C (r h S.tl) w l1 l2 l3 l4
  rw [show [Value.slice C.A1 C.os.length C.c1, Value.slice C.A2 C.ss.length C.c2, Value.slice C.A3 C.ps.length C.c3] = C.enc from rfl]
  refine call_intro hR ?_
  rintro _ h ⟨rfl, hf⟩
  have S := S.frame hf
  by_cases hok : okCfg C
  case neg =>
    rw [dcd_false hok]
    (try simp (maxSteps := 1000000) (disch := first | omega | assumption | exact Nat.le_of_ble_eq_true rfl) only [go_sem, ↓mwp_block, simprocAttr])
    exact hK _ _ (.inl ⟨hok, rfl, S.tl⟩)
  rw [dcd_true hok]
  obtain ⟨_, k1, k2, k3, k4, k5⟩ := id hok
  have hOk := hok.okO
  have ht : totOf C = ordSum C.os + supSum C.ss := rfl
  have hob := ord_bound k3
  have hsb := sup_bound k4.1
  ((try clear F); have F := S.all; (try simp only [all_cons, all_nil, says_cell, and_true] at F))
  have S : St h0 h (ownA Unt.enc 4 76 (.slice none 0 0) [] :: _) := S.nilS
  (try simp (maxSteps := 1000000) (disch := first | omega | assumption | exact Nat.le_of_ble_eq_true rfl) only [go_sem, ↓mwp_block, simprocAttr, F, Cfg.enc])
  refine loop_intro (fun ρ h' => ρ 1 = .pointer (some ⟨g, 0, none⟩) ∧ ρ 13 = .slice C.A1 C.os.length C.c1 ∧ ρ 14 = .int .i64 C.os.length ∧ ∃ i : Nat, ρ 15 = .int .i64 i ∧ i ≤ C.os.length ∧ ∃ (Au : Option Addr) (cu : Nat), ρ 4 = .slice Au (ordsU 0 (C.os.take i)).length cu ∧
    St h0 h' (ownA Unt.enc 4 76 (.slice Au (ordsU 0 (C.os.take i)).length cu) (ordsU 0 (C.os.take i)) :: cellA g C.enc 26 :: l)) (fun ρ _ => C.os.length - (iv (ρ 15)).toNat) ?_ ?_
  · (try simp (maxSteps := 1000000) (disch := first | omega | assumption | exact Nat.le_of_ble_eq_true rfl) only [go_sem, ↓mwp_block, simprocAttr])
    exact ⟨0, rfl, by omega, none, 0, rfl, S⟩
  clear S F hR
  rintro ρ h J hJ ⟨e1, e13, e14, i, e15, hi, Au, cu, e4, S⟩
  (try simp (maxSteps := 1000000) (disch := first | omega | assumption | exact Nat.le_of_ble_eq_true rfl) only [go_sem, ↓mwp_block, simprocAttr, e14, e15])
  refine cond_dec (fun hlt => ?_) (fun hlt => ?_)
  · have hil : i < C.os.length := by omega
    obtain ⟨b, off, hA, hr1⟩ := (r _ S.tl.tl).os.at hil
    have hmem := List.getElem_mem hil
    have hs1 := ordsU_snoc hil
    have hrl := fun {h'} (S : St h0 h' l) => (r _ S).ls _ hmem
    have hO := hOk _ hmem
    have hul := unitsOf_len hO i
    have hlen := ordsU_len (os := C.os.take i) 0 fun o ho => hOk o (List.mem_of_mem_take ho)
    have hle := sumTake_le k3 i
    generalize C.os[i] = o at *
    generalize ordsU 0 (C.os.take i) = U at *
    have hcn := hO.cnt
    have ho8 := hO.n1
    (try simp (maxSteps := 1000000) (disch := first | omega | assumption | exact Nat.le_of_ble_eq_true rfl) only [go_sem, ↓mwp_block, simprocAttr, e13, e15, hA, hr1])
    (refine st_alloc S ?_; clear S; intro q h S; (try simp only [splice_cons, splice_nil, List.set_cons_zero, List.set_cons_succ, Nat.zero_add, Nat.reduceAdd, List.cons_append, List.nil_append] at S); ((try clear F); have F := S.all; (try simp only [all_cons, all_nil, says_cell, and_true] at F)))
    (try simp (maxSteps := 1000000) (disch := first | omega | assumption | exact Nat.le_of_ble_eq_true rfl) only [go_sem, ↓mwp_block, simprocAttr, F, Odr.enc])
    (refine st_store (by first | exact S | exact S.p1 | exact S.p2 | exact S.p3 | exact S.p4 | exact S.p5 | exact S.p6 | exact S.p7 | exact S.p8 | exact S.p9 | exact S.p10 | exact S.p11) (by rfl) (by rfl) (Nat.le_of_ble_eq_true rfl) ?_; clear S; intro h S; (try simp only [splice_cons, splice_nil, List.set_cons_zero, List.set_cons_succ, Nat.zero_add, Nat.reduceAdd, List.cons_append, List.nil_append] at S); ((try clear F); have F := S.all; (try simp only [all_cons, all_nil, says_cell, and_true] at F)))
    (try simp (maxSteps := 1000000) (disch := first | omega | assumption | exact Nat.le_of_ble_eq_true rfl) only [go_sem, ↓mwp_block, simprocAttr, e4, F])
    refine call_intro (units_ok o i hO (fun h' S => hrl S.tl.tl.tl) S) ?_
    clear S F hr1
    intro v h S
    obtain ⟨Av, cv, rfl⟩ := S.sl
    (try simp (maxSteps := 1000000) (disch := first | omega | assumption | exact Nat.le_of_ble_eq_true rfl) only [go_sem, ↓mwp_block, simprocAttr])
    refine st_append (bytes := 32) (ys := unitsOf o i) Unt.enc_len (by omega) Unt.enc_plain rfl S.p2 rfl (src_arr Unt.enc_len (S.arr Unt.enc_len) rfl) (by omega) (by omega) ?_
    clear S
    intro v h S
    rw [← hs1] at S
    obtain ⟨Au, cu, rfl⟩ := S.sl
    (try simp (maxSteps := 1000000) (disch := first | omega | assumption | exact Nat.le_of_ble_eq_true rfl) only [go_sem, ↓mwp_block, simprocAttr, e15])
    refine hJ _ _ ?_ ?_
    · (try simp (maxSteps := 1000000) (disch := first | omega | assumption | exact Nat.le_of_ble_eq_true rfl) only [go_sem, ↓mwp_block, simprocAttr, e1, e13, e14, hA])
      exact ⟨i + 1, rfl, by omega, Au, cu, rfl, S.d1.d1⟩
    · (try simp (maxSteps := 1000000) (disch := first | omega | assumption | exact Nat.le_of_ble_eq_true rfl) only [go_sem, ↓mwp_block, simprocAttr, e15])
      omega
  obtain rfl : i = C.os.length := by omega
  rw [List.take_length] at e4 S
  have hlen := ordsU_len (os := C.os) 0 hOk
  clear hJ
  ((try clear F); have F := S.all; (try simp only [all_cons, all_nil, says_cell, and_true] at F))
  (try simp (maxSteps := 1000000) (disch := first | omega | assumption | exact Nat.le_of_ble_eq_true rfl) only [go_sem, ↓mwp_block, simprocAttr, e1, F, Cfg.enc])
  refine loop_intro (fun ρ h' => ρ 27 = .slice C.A2 C.ss.length C.c2 ∧ ρ 28 = .int .i64 C.ss.length ∧ ∃ i : Nat, ρ 29 = .int .i64 i ∧ i ≤ C.ss.length ∧ ∃ (Au : Option Addr) (cu : Nat), ρ 4 = .slice Au (ordsU 0 C.os ++ (C.ss.take i).flatMap supU).length cu ∧
    St h0 h' (ownA Unt.enc 4 76 (.slice Au (ordsU 0 C.os ++ (C.ss.take i).flatMap supU).length cu) (ordsU 0 C.os ++ (C.ss.take i).flatMap supU) :: l)) (fun ρ _ => C.ss.length - (iv (ρ 29)).toNat) ?_ ?_
  · (try simp (maxSteps := 1000000) (disch := first | omega | assumption | exact Nat.le_of_ble_eq_true rfl) only [go_sem, ↓mwp_block, simprocAttr])
    exact ⟨0, rfl, by omega, Au, cu, by simp [e4], by simpa using S.d1⟩
  clear S F e1 e13 e14 e15 e4
  rintro ρ h J hJ ⟨e27, e28, i, e29, hi, Au, cu, e4, S⟩
  (try simp (maxSteps := 1000000) (disch := first | omega | assumption | exact Nat.le_of_ble_eq_true rfl) only [go_sem, ↓mwp_block, simprocAttr, e28, e29])
  refine cond_dec (fun hlt => ?_) (fun hlt => ?_)
  · have hil : i < C.ss.length := by omega
    obtain ⟨b, off, hA, hr1⟩ := (r _ S.tl).ss.at hil
    have hs1 : ordsU 0 C.os ++ (C.ss.take (i + 1)).flatMap supU = (ordsU 0 C.os ++ (C.ss.take i).flatMap supU) ++ supU C.ss[i] := by rw [supU_snoc hil, List.append_assoc]
    have hx := k4.1 _ (List.getElem_mem hil)
    have hl2 := supU_len (ss := C.ss.take i) fun s hs => k4.1 s (List.mem_of_mem_take hs)
    have hl3 := supTake_le k4.1 (i + 1)
    rw [supSum_snoc hil] at hl3
    generalize C.ss[i] = x at *
    obtain ⟨_, _, hx0, hx1⟩ := hx
    have hPl : ((ordsU 0 C.os ++ (C.ss.take i).flatMap supU).length : Int) + x.count ≤ 200 := by rw [List.length_append]; omega
    generalize ordsU 0 C.os ++ (C.ss.take i).flatMap supU = P at *
    (try simp (maxSteps := 1000000) (disch := first | omega | assumption | exact Nat.le_of_ble_eq_true rfl) only [go_sem, ↓mwp_block, simprocAttr, e27, e29, hA, hr1])
    (refine st_alloc S ?_; clear S; intro q h S; (try simp only [splice_cons, splice_nil, List.set_cons_zero, List.set_cons_succ, Nat.zero_add, Nat.reduceAdd, List.cons_append, List.nil_append] at S); ((try clear F); have F := S.all; (try simp only [all_cons, all_nil, says_cell, and_true] at F)))
    (try simp (maxSteps := 1000000) (disch := first | omega | assumption | exact Nat.le_of_ble_eq_true rfl) only [go_sem, ↓mwp_block, simprocAttr, F, Sup.enc])
    (refine st_store (by first | exact S | exact S.p1 | exact S.p2 | exact S.p3 | exact S.p4 | exact S.p5 | exact S.p6 | exact S.p7 | exact S.p8 | exact S.p9 | exact S.p10 | exact S.p11) (by rfl) (by rfl) (Nat.le_of_ble_eq_true rfl) ?_; clear S; intro h S; (try simp only [splice_cons, splice_nil, List.set_cons_zero, List.set_cons_succ, Nat.zero_add, Nat.reduceAdd, List.cons_append, List.nil_append] at S); ((try clear F); have F := S.all; (try simp only [all_cons, all_nil, says_cell, and_true] at F)))
    (try simp (maxSteps := 1000000) (disch := first | omega | assumption | exact Nat.le_of_ble_eq_true rfl) only [go_sem, ↓mwp_block, simprocAttr, F])
    refine loop_intro (fun ρ' h' => ρ' 27 = ρ 27 ∧ ρ' 28 = ρ 28 ∧ ρ' 29 = ρ 29 ∧ ρ' 8 = .pointer (some ⟨q, 0, none⟩) ∧ ρ' 34 = .int .i64 x.count ∧ ∃ j : Nat, ρ' 35 = .int .i64 j ∧ j ≤ x.count.toNat ∧
      ∃ (Au : Option Addr) (cu : Nat), ρ' 4 = .slice Au (P.length + j) cu ∧
      St h0 h' (ownA Unt.enc 4 76 (.slice Au (P.length + j) cu) (P ++ List.replicate j ⟨-1, x.sku, 0, x.price⟩) :: cellA q x.enc 71 :: l)) (fun ρ' _ => x.count.toNat - (iv (ρ' 35)).toNat) ?_ ?_
    · (try simp (maxSteps := 1000000) (disch := first | omega | assumption | exact Nat.le_of_ble_eq_true rfl) only [go_sem, ↓mwp_block, simprocAttr, e4])
      exact ⟨0, rfl, by omega, Au, cu, rfl, by simp only [List.replicate_zero, List.append_nil, Nat.add_zero]; exact S.p1⟩
    have p27 := e27
    have p28 := e28
    have p29 := e29
    clear S F e27 e28 e29 e4 hr1
    rintro ρ' h J' hJ' ⟨e27, e28, e29, e8, e34, j, e35, hj, Au, cu, e4, S⟩
    (try simp (maxSteps := 1000000) (disch := first | omega | assumption | exact Nat.le_of_ble_eq_true rfl) only [go_sem, ↓mwp_block, simprocAttr, e34, e35])
    refine cond_dec (fun hlt2 => ?_) (fun hlt2 => ?_)
    · have hjl : j < x.count.toNat := by omega
      have er2 : P ++ List.replicate j (⟨-1, x.sku, 0, x.price⟩ : Unt) ++ [⟨-1, x.sku, 0, x.price⟩] = P ++ List.replicate (j + 1) ⟨-1, x.sku, 0, x.price⟩ := by rw [List.append_assoc, ← List.replicate_succ']
      have hll : (P ++ List.replicate j (⟨-1, x.sku, 0, x.price⟩ : Unt)).length = P.length + j := by rw [List.length_append, List.length_replicate]
      have hll2 : (P ++ List.replicate (j + 1) (⟨-1, x.sku, 0, x.price⟩ : Unt)).length = P.length + (j + 1) := by rw [List.length_append, List.length_replicate]
      ((try clear F); have F := S.all; (try simp only [all_cons, all_nil, says_cell, and_true] at F))
      (try simp (maxSteps := 1000000) (disch := first | omega | assumption | exact Nat.le_of_ble_eq_true rfl) only [go_sem, ↓mwp_block, simprocAttr, e8, F, Sup.enc, e4])
      (refine st_alloc S ?_; clear S; intro r1 h S; (try simp only [splice_cons, splice_nil, List.set_cons_zero, List.set_cons_succ, Nat.zero_add, Nat.reduceAdd, List.cons_append, List.nil_append] at S); ((try clear F); have F := S.all; (try simp only [all_cons, all_nil, says_cell, and_true] at F)))
      (try simp (maxSteps := 1000000) (disch := first | omega | assumption | exact Nat.le_of_ble_eq_true rfl) only [go_sem, ↓mwp_block, simprocAttr])
      refine st_append1 (bytes := 32) (x := (⟨-1, x.sku, 0, x.price⟩ : Unt)) Unt.enc_len (by omega) Unt.enc_plain rfl rfl S (by omega) (by omega) ?_
      clear S F
      intro v h S
      rw [er2] at S
      obtain ⟨Au, cu, rfl⟩ := S.sl
      rw [hll2] at S ⊢
      (try simp (maxSteps := 1000000) (disch := first | omega | assumption | exact Nat.le_of_ble_eq_true rfl) only [go_sem, ↓mwp_block, simprocAttr, e35])
      refine hJ' _ _ ?_ ?_
      · (try simp (maxSteps := 1000000) (disch := first | omega | assumption | exact Nat.le_of_ble_eq_true rfl) only [go_sem, ↓mwp_block, simprocAttr, e27, e28, e29, e8, e34])
        exact ⟨j + 1, rfl, by omega, Au, cu, rfl, S⟩
      · (try simp (maxSteps := 1000000) (disch := first | omega | assumption | exact Nat.le_of_ble_eq_true rfl) only [go_sem, ↓mwp_block, simprocAttr, e35])
        omega
    · obtain rfl : j = x.count.toNat := by omega
      have hrp : P ++ List.replicate x.count.toNat (⟨-1, x.sku, 0, x.price⟩ : Unt) = P ++ supU x := rfl
      have hll : (P ++ supU x).length = P.length + x.count.toNat := by rw [List.length_append, supU, List.length_replicate]
      rw [hrp] at S
      (try simp (maxSteps := 1000000) (disch := first | omega | assumption | exact Nat.le_of_ble_eq_true rfl) only [go_sem, ↓mwp_block, simprocAttr, e29, p29])
      refine hJ _ _ ?_ ?_
      · (try simp (maxSteps := 1000000) (disch := first | omega | assumption | exact Nat.le_of_ble_eq_true rfl) only [go_sem, ↓mwp_block, simprocAttr, e27, p27, e28, p28])
        exact ⟨i + 1, rfl, by omega, Au, cu, by rw [hs1, hll]; exact e4, by rw [hs1, hll]; exact S.d1⟩
      · (try simp (maxSteps := 1000000) (disch := first | omega | assumption | exact Nat.le_of_ble_eq_true rfl) only [go_sem, ↓mwp_block, simprocAttr, p29])
        omega
  obtain rfl : i = C.ss.length := by omega
  rw [List.take_length] at e4 S
  (try simp (maxSteps := 1000000) (disch := first | omega | assumption | exact Nat.le_of_ble_eq_true rfl) only [go_sem, ↓mwp_block, simprocAttr, e4])
  exact hK _ _ (.inr ⟨hok, _, rfl, S⟩)
end
end Go.Proofs.YtblalmgahfbalaaGreat.MX
