/- Texts in one file: Od13. -/
import Derived.Test.YtblalmgahfbalaaK28

/- Orders: prices, and the reference's word on which are alike. -/
namespace Go.Proofs.Ytblalmgahfbalaa.MX
open Go Go.Proofs
set_option linter.unusedSimpArgs false
set_option linter.unusedVariables false
set_option maxHeartbeats 16000000
def priceOf (ss : List Sup) (sku : Int) : Option Int := match ss with
  | [] => none
  | s :: ss => if s.sku = sku then some s.price else priceOf ss sku
theorem priceOf_at {ss : List Sup} {sku : Int} : ∀ {i : Nat} (hi : i < ss.length), (∀ s ∈ ss.take i, s.sku ≠ sku) → ss[i].sku = sku → priceOf ss sku = some ss[i].price := by
  induction ss with
  | nil => intro i hi; simp at hi
  | cons s ss ih =>
    intro i hi h1 h2
    match i with
    | 0 => simp only [List.getElem_cons_zero] at h2 ⊢; rw [priceOf, if_pos h2]
    | i + 1 =>
      rw [priceOf, if_neg (h1 s (by simp))]
      exact ih (by simpa using hi) (fun x hx => h1 x (by simp [hx])) h2
theorem priceOf_no {ss : List Sup} {sku : Int} (h : ∀ s ∈ ss, s.sku ≠ sku) : priceOf ss sku = none := by
  induction ss with
  | nil => rfl
  | cons s ss ih => rw [priceOf, if_neg (h s (by simp)), ih fun x hx => h x (by simp [hx])]
theorem sku_snoc {ss : List Sup} {sku : Int} {i : Nat} (hi : i < ss.length) (h1 : ∀ s ∈ ss.take i, s.sku ≠ sku) (h2 : ¬ ss[i].sku = sku) : ∀ s ∈ ss.take (i + 1), s.sku ≠ sku := by
  rw [List.take_succ_eq_append_getElem hi]
  intro s hs
  rcases List.mem_append.1 hs with hs | hs
  · exact h1 s hs
  · rw [List.mem_singleton] at hs; rw [hs]; exact h2
theorem OPrice_ok {h0 : Heap} (C : Cfg) (sku : Int) (r : Arr Sup.enc 3 h0 C.A2 C.ss) (l2 : C.ss.length < 1000000) :
    CallsH Try.prog 14 [.agg C.enc.toArray, .int .i64 sku] h0 fun v h' => v = .tuple #[.int .i64 ((priceOf C.ss sku).getD 0), .int .i64 (if (priceOf C.ss sku).isSome then 0 else 7)] ∧ Fr h0 h' [] := by
  have S := St.nil h0
  (refine enterK c_order_Price (Nat.le_of_ble_eq_true rfl) fun K hK => ?_; (try simp (maxSteps := 1000000) (disch := first | omega | assumption | exact Nat.le_of_ble_eq_true rfl) only [go_sem, ↓mwp_block, simprocAttr, ir_order_Price]))
  (refine st_alloc S ?_; clear S; intro g h S; (try simp only [splice_cons, splice_nil, List.set_cons_zero, List.set_cons_succ, Nat.zero_add, Nat.reduceAdd, List.cons_append, List.nil_append] at S); ((try clear F); have F := S.all; (try simp only [all_cons, all_nil, says_cell, and_true] at F)))
  (try simp (maxSteps := 1000000) (disch := first | omega | assumption | exact Nat.le_of_ble_eq_true rfl) only [go_sem, ↓mwp_block, simprocAttr, F, Cfg.enc])
  refine loop_intro (fun ρ h' => ρ 1 = .int .i64 sku ∧ ρ 9 = .slice C.A2 C.ss.length C.c2 ∧ ρ 10 = .int .i64 C.ss.length ∧ (∃ i : Nat, ρ 11 = .int .i64 i ∧ i ≤ C.ss.length ∧ ∀ s ∈ C.ss.take i, s.sku ≠ sku) ∧ St h0 h' []) (fun ρ _ => C.ss.length - (iv (ρ 11)).toNat) ?_ ?_
  · (try simp (maxSteps := 1000000) (disch := first | omega | assumption | exact Nat.le_of_ble_eq_true rfl) only [go_sem, ↓mwp_block, simprocAttr])
    exact ⟨⟨0, rfl, by omega, by simp⟩, S.tl⟩
  clear S F
  rintro ρ h J hJ ⟨e1, e9, e10, ⟨i, e11, hi, hne⟩, S⟩
  (try simp (maxSteps := 1000000) (disch := first | omega | assumption | exact Nat.le_of_ble_eq_true rfl) only [go_sem, ↓mwp_block, simprocAttr, e10, e11])
  refine cond_dec (fun hlt => ?_) (fun hlt => ?_)
  · have hil : i < C.ss.length := by omega
    obtain ⟨b, off, hA, hr1⟩ := (r.fr S.fr (by simp)).at hil
    have hat := fun h => priceOf_at (sku := sku) hil hne h
    have hsn := fun h => sku_snoc (sku := sku) hil hne h
    generalize C.ss[i] = x at *
    (try simp (maxSteps := 1000000) (disch := first | omega | assumption | exact Nat.le_of_ble_eq_true rfl) only [go_sem, ↓mwp_block, simprocAttr, e9, e11, hA, hr1])
    (refine st_alloc S ?_; clear S; intro q h S; (try simp only [splice_cons, splice_nil, List.set_cons_zero, List.set_cons_succ, Nat.zero_add, Nat.reduceAdd, List.cons_append, List.nil_append] at S); ((try clear F); have F := S.all; (try simp only [all_cons, all_nil, says_cell, and_true] at F)))
    (try simp (maxSteps := 1000000) (disch := first | omega | assumption | exact Nat.le_of_ble_eq_true rfl) only [go_sem, ↓mwp_block, simprocAttr, F, Sup.enc])
    (refine st_store (by first | exact S | exact S.p1 | exact S.p2 | exact S.p3 | exact S.p4 | exact S.p5 | exact S.p6 | exact S.p7 | exact S.p8 | exact S.p9 | exact S.p10 | exact S.p11) (by rfl) (by rfl) (Nat.le_of_ble_eq_true rfl) ?_; clear S; intro h S; (try simp only [splice_cons, splice_nil, List.set_cons_zero, List.set_cons_succ, Nat.zero_add, Nat.reduceAdd, List.cons_append, List.nil_append] at S); ((try clear F); have F := S.all; (try simp only [all_cons, all_nil, says_cell, and_true] at F)))
    by_cases c1 : x.sku = sku
    · (try simp (maxSteps := 1000000) (disch := first | omega | assumption | exact Nat.le_of_ble_eq_true rfl) only [go_sem, ↓mwp_block, simprocAttr, F, e1, c1])
      exact hK _ _ ⟨by rw [hat c1]; rfl, S.fr⟩
    · (try simp (maxSteps := 1000000) (disch := first | omega | assumption | exact Nat.le_of_ble_eq_true rfl) only [go_sem, ↓mwp_block, simprocAttr, F, e1, c1, e11])
      refine hJ _ _ ?_ ?_
      · (try simp (maxSteps := 1000000) (disch := first | omega | assumption | exact Nat.le_of_ble_eq_true rfl) only [go_sem, ↓mwp_block, simprocAttr, e1, e9, e10])
        exact ⟨⟨i + 1, rfl, by omega, hsn c1⟩, S.tl⟩
      · (try simp (maxSteps := 1000000) (disch := first | omega | assumption | exact Nat.le_of_ble_eq_true rfl) only [go_sem, ↓mwp_block, simprocAttr, e11])
        omega
  · obtain rfl : i = C.ss.length := by omega
    rw [List.take_length] at hne
    (try simp (maxSteps := 1000000) (disch := first | omega | assumption | exact Nat.le_of_ble_eq_true rfl) only [go_sem, ↓mwp_block, simprocAttr])
    exact hK _ _ ⟨by rw [priceOf_no hne]; rfl, S.fr⟩
theorem RPrice_ok {h0 : Heap} (C : Cfg) (sku : Int) (r : Arr Sup.enc 3 h0 C.A2 C.ss) (l2 : C.ss.length < 1000000) :
    CallsH Try.prog 15 [.agg C.enc.toArray, .int .i64 sku] h0 fun v h' => v = .tuple #[.int .i64 ((priceOf C.ss sku).getD 0), .bool (priceOf C.ss sku).isSome] ∧ Fr h0 h' [] := by
  have S := St.nil h0
  (refine enterK c_recoupref05_Price (Nat.le_of_ble_eq_true rfl) fun K hK => ?_; (try simp (maxSteps := 1000000) (disch := first | omega | assumption | exact Nat.le_of_ble_eq_true rfl) only [go_sem, ↓mwp_block, simprocAttr, ir_recoupref05_Price]))
  (refine st_alloc S ?_; clear S; intro g h S; (try simp only [splice_cons, splice_nil, List.set_cons_zero, List.set_cons_succ, Nat.zero_add, Nat.reduceAdd, List.cons_append, List.nil_append] at S); ((try clear F); have F := S.all; (try simp only [all_cons, all_nil, says_cell, and_true] at F)))
  (try simp (maxSteps := 1000000) (disch := first | omega | assumption | exact Nat.le_of_ble_eq_true rfl) only [go_sem, ↓mwp_block, simprocAttr, F, Cfg.enc])
  refine loop_intro (fun ρ h' => ρ 1 = .int .i64 sku ∧ ρ 2 = .pointer (some ⟨g, 0, none⟩) ∧ ρ 9 = .int .i64 C.ss.length ∧ (∃ i : Nat, ρ 10 = .int .i64 i ∧ i ≤ C.ss.length ∧ ∀ s ∈ C.ss.take i, s.sku ≠ sku) ∧ St h0 h' [cellA g C.enc 26]) (fun ρ _ => C.ss.length - (iv (ρ 10)).toNat) ?_ ?_
  · (try simp (maxSteps := 1000000) (disch := first | omega | assumption | exact Nat.le_of_ble_eq_true rfl) only [go_sem, ↓mwp_block, simprocAttr])
    exact ⟨⟨0, rfl, by omega, by simp⟩, S⟩
  clear S F
  rintro ρ h J hJ ⟨e1, e2, e9, ⟨i, e10, hi, hne⟩, S⟩
  (try simp (maxSteps := 1000000) (disch := first | omega | assumption | exact Nat.le_of_ble_eq_true rfl) only [go_sem, ↓mwp_block, simprocAttr, e9, e10])
  refine cond_dec (fun hlt => ?_) (fun hlt => ?_)
  · have hil : i < C.ss.length := by omega
    obtain ⟨b, off, hA, hr1⟩ := (r.fr S.fr (by simp)).at hil
    have hat := fun h => priceOf_at (sku := sku) hil hne h
    have hsn := fun h => sku_snoc (sku := sku) hil hne h
    generalize C.ss[i] = x at *
    have hq0 := rd1_part0 hr1 (by omega)
    have hq1 := rd1_part hr1 1 (by omega)
    simp only [Sup.enc, List.getElem?_cons_zero, List.getElem?_cons_succ] at hq0 hq1
    ((try clear F); have F := S.all; (try simp only [all_cons, all_nil, says_cell, and_true] at F))
    by_cases c1 : x.sku = sku
    · (try simp (maxSteps := 1000000) (disch := first | omega | assumption | exact Nat.le_of_ble_eq_true rfl) only [go_sem, ↓mwp_block, simprocAttr, e2, F, Cfg.enc, e10, hA, hq0, e1, c1, hq1])
      exact hK _ _ ⟨by rw [hat c1]; rfl, S.fr⟩
    · (try simp (maxSteps := 1000000) (disch := first | omega | assumption | exact Nat.le_of_ble_eq_true rfl) only [go_sem, ↓mwp_block, simprocAttr, e2, F, Cfg.enc, e10, hA, hq0, e1, c1])
      refine hJ _ _ ?_ ?_
      · (try simp (maxSteps := 1000000) (disch := first | omega | assumption | exact Nat.le_of_ble_eq_true rfl) only [go_sem, ↓mwp_block, simprocAttr, e1, e2, e9])
        exact ⟨⟨i + 1, rfl, by omega, hsn c1⟩, S⟩
      · (try simp (maxSteps := 1000000) (disch := first | omega | assumption | exact Nat.le_of_ble_eq_true rfl) only [go_sem, ↓mwp_block, simprocAttr, e10])
        omega
  · obtain rfl : i = C.ss.length := by omega
    rw [List.take_length] at hne
    (try simp (maxSteps := 1000000) (disch := first | omega | assumption | exact Nat.le_of_ble_eq_true rfl) only [go_sem, ↓mwp_block, simprocAttr])
    exact hK _ _ ⟨by rw [priceOf_no hne]; rfl, S.fr⟩
theorem take_all {α : Type} {xs ys : List α} (h : xs.take ys.length = ys.take ys.length) (hl : xs.length = ys.length) : xs = ys := by
  rwa [List.take_of_length_le (by omega), List.take_length] at h
theorem take_snoc {α : Type} {xs ys : List α} {i : Nat} (h : xs.take i = ys.take i) (h1 : i < xs.length) (h2 : i < ys.length) (he : xs[i] = ys[i]) : xs.take (i + 1) = ys.take (i + 1) := by
  rw [List.take_succ_eq_append_getElem h1, List.take_succ_eq_append_getElem h2, he, h]
theorem SameConfig_ok {h0 : Heap} (C D : Cfg) (r : C.rd h0) (q : D.rd h0) (l1 : C.os.length < 1000000) (l2 : C.ss.length < 1000000) (l3 : C.ps.length < 1000000) (l4 : ∀ o ∈ C.os, o.ls.length < 1000000) :
    CallsH Try.prog 17 [.agg C.enc.toArray, .agg D.enc.toArray] h0 fun v h' => v = .bool (dcd (C.pu = D.pu)) ∧ Fr h0 h' [] := by
  have S := St.nil h0
  have r' : ∀ {h' : Heap} {l : List HP}, St h0 h' l → C.rd h' := fun S => r.fr S.fr
  have q' : ∀ {h' : Heap} {l : List HP}, St h0 h' l → D.rd h' := fun S => q.fr S.fr
  have n1 : ¬ C.ps = D.ps → dcd (C.pu = D.pu) = false := fun hn => dcd_false fun e => hn (congrArg (fun z => z.1) e)
  have n2 : ¬ C.ss = D.ss → dcd (C.pu = D.pu) = false := fun hn => dcd_false fun e => hn (congrArg (fun z => z.2.1) e)
  have n3 : ¬ C.os.map Odr.pu = D.os.map Odr.pu → dcd (C.pu = D.pu) = false := fun hn => dcd_false fun e => hn (congrArg (fun z => z.2.2) e)
  by_cases d1 : (C.ps.length : Int) = D.ps.length
  case neg =>
    (refine enterK c_recoupref05_SameConfig (Nat.le_of_ble_eq_true rfl) fun K hK => ?_; (try simp (maxSteps := 1000000) (disch := first | omega | assumption | exact Nat.le_of_ble_eq_true rfl) only [go_sem, ↓mwp_block, simprocAttr, ir_recoupref05_SameConfig]))
    (refine st_alloc S ?_; clear S; intro a h S; (try simp only [splice_cons, splice_nil, List.set_cons_zero, List.set_cons_succ, Nat.zero_add, Nat.reduceAdd, List.cons_append, List.nil_append] at S); ((try clear F); have F := S.all; (try simp only [all_cons, all_nil, says_cell, and_true] at F)))
    (try simp (maxSteps := 1000000) (disch := first | omega | assumption | exact Nat.le_of_ble_eq_true rfl) only [go_sem, ↓mwp_block, simprocAttr])
    (refine st_alloc S ?_; clear S; intro b h S; (try simp only [splice_cons, splice_nil, List.set_cons_zero, List.set_cons_succ, Nat.zero_add, Nat.reduceAdd, List.cons_append, List.nil_append] at S); ((try clear F); have F := S.all; (try simp only [all_cons, all_nil, says_cell, and_true] at F)))
    (try simp (maxSteps := 1000000) (disch := first | omega | assumption | exact Nat.le_of_ble_eq_true rfl) only [go_sem, ↓mwp_block, simprocAttr, F, Cfg.enc, d1])
    exact hK _ _ ⟨by rw [n1 fun e => d1 (by rw [e])], S.fr⟩
  by_cases d2 : (C.ss.length : Int) = D.ss.length
  case neg =>
    (refine enterK c_recoupref05_SameConfig (Nat.le_of_ble_eq_true rfl) fun K hK => ?_; (try simp (maxSteps := 1000000) (disch := first | omega | assumption | exact Nat.le_of_ble_eq_true rfl) only [go_sem, ↓mwp_block, simprocAttr, ir_recoupref05_SameConfig]))
    (refine st_alloc S ?_; clear S; intro a h S; (try simp only [splice_cons, splice_nil, List.set_cons_zero, List.set_cons_succ, Nat.zero_add, Nat.reduceAdd, List.cons_append, List.nil_append] at S); ((try clear F); have F := S.all; (try simp only [all_cons, all_nil, says_cell, and_true] at F)))
    (try simp (maxSteps := 1000000) (disch := first | omega | assumption | exact Nat.le_of_ble_eq_true rfl) only [go_sem, ↓mwp_block, simprocAttr])
    (refine st_alloc S ?_; clear S; intro b h S; (try simp only [splice_cons, splice_nil, List.set_cons_zero, List.set_cons_succ, Nat.zero_add, Nat.reduceAdd, List.cons_append, List.nil_append] at S); ((try clear F); have F := S.all; (try simp only [all_cons, all_nil, says_cell, and_true] at F)))
    (try simp (maxSteps := 1000000) (disch := first | omega | assumption | exact Nat.le_of_ble_eq_true rfl) only [go_sem, ↓mwp_block, simprocAttr, F, Cfg.enc, d1, d2])
    exact hK _ _ ⟨by rw [n2 fun e => d2 (by rw [e])], S.fr⟩
  by_cases d3 : (C.os.length : Int) = D.os.length
  case neg =>
    (refine enterK c_recoupref05_SameConfig (Nat.le_of_ble_eq_true rfl) fun K hK => ?_; (try simp (maxSteps := 1000000) (disch := first | omega | assumption | exact Nat.le_of_ble_eq_true rfl) only [go_sem, ↓mwp_block, simprocAttr, ir_recoupref05_SameConfig]))
    (refine st_alloc S ?_; clear S; intro a h S; (try simp only [splice_cons, splice_nil, List.set_cons_zero, List.set_cons_succ, Nat.zero_add, Nat.reduceAdd, List.cons_append, List.nil_append] at S); ((try clear F); have F := S.all; (try simp only [all_cons, all_nil, says_cell, and_true] at F)))
    (try simp (maxSteps := 1000000) (disch := first | omega | assumption | exact Nat.le_of_ble_eq_true rfl) only [go_sem, ↓mwp_block, simprocAttr])
    (refine st_alloc S ?_; clear S; intro b h S; (try simp only [splice_cons, splice_nil, List.set_cons_zero, List.set_cons_succ, Nat.zero_add, Nat.reduceAdd, List.cons_append, List.nil_append] at S); ((try clear F); have F := S.all; (try simp only [all_cons, all_nil, says_cell, and_true] at F)))
    (try simp (maxSteps := 1000000) (disch := first | omega | assumption | exact Nat.le_of_ble_eq_true rfl) only [go_sem, ↓mwp_block, simprocAttr, F, Cfg.enc, d1, d2, d3])
    exact hK _ _ ⟨by rw [n3 fun e => d3 (by have := congrArg List.length e; simp only [List.length_map] at this; omega)], S.fr⟩
  have k1 : C.ps.length = D.ps.length := by omega
  have k2 : C.ss.length = D.ss.length := by omega
  have k3 : C.os.length = D.os.length := by omega
  have hCe : C.enc = [.slice C.A1 D.os.length C.c1, .slice C.A2 D.ss.length C.c2, .slice C.A3 D.ps.length C.c3] := by simp only [Cfg.enc, k1, k2, k3]
  rw [hCe]
  (refine enterK c_recoupref05_SameConfig (Nat.le_of_ble_eq_true rfl) fun K hK => ?_; (try simp (maxSteps := 1000000) (disch := first | omega | assumption | exact Nat.le_of_ble_eq_true rfl) only [go_sem, ↓mwp_block, simprocAttr, ir_recoupref05_SameConfig]))
  (refine st_alloc S ?_; clear S; intro a h S; (try simp only [splice_cons, splice_nil, List.set_cons_zero, List.set_cons_succ, Nat.zero_add, Nat.reduceAdd, List.cons_append, List.nil_append] at S); ((try clear F); have F := S.all; (try simp only [all_cons, all_nil, says_cell, and_true] at F)))
  (try simp (maxSteps := 1000000) (disch := first | omega | assumption | exact Nat.le_of_ble_eq_true rfl) only [go_sem, ↓mwp_block, simprocAttr])
  (refine st_alloc S ?_; clear S; intro b h S; (try simp only [splice_cons, splice_nil, List.set_cons_zero, List.set_cons_succ, Nat.zero_add, Nat.reduceAdd, List.cons_append, List.nil_append] at S); ((try clear F); have F := S.all; (try simp only [all_cons, all_nil, says_cell, and_true] at F)))
  (try simp (maxSteps := 1000000) (disch := first | omega | assumption | exact Nat.le_of_ble_eq_true rfl) only [go_sem, ↓mwp_block, simprocAttr, F, Cfg.enc])
  refine loop_intro (fun ρ h' => ρ 2 = .pointer (some ⟨a, 0, none⟩) ∧ ρ 3 = .pointer (some ⟨b, 0, none⟩) ∧ ρ 38 = .int .i64 D.ps.length ∧ (∃ i : Nat, ρ 39 = .int .i64 i ∧ i ≤ D.ps.length ∧ C.ps.take i = D.ps.take i) ∧
    St h0 h' [cellA b D.enc 26, cellA a C.enc 26]) (fun ρ _ => D.ps.length - (iv (ρ 39)).toNat) ?_ ?_
  · (try simp (maxSteps := 1000000) (disch := first | omega | assumption | exact Nat.le_of_ble_eq_true rfl) only [go_sem, ↓mwp_block, simprocAttr])
    exact ⟨⟨0, rfl, by omega, rfl⟩, by rw [hCe]; exact S⟩
  clear S F
  rintro ρ h J hJ ⟨e2, e3, e38, ⟨i, e39, hi, htk⟩, S⟩
  (try simp (maxSteps := 1000000) (disch := first | omega | assumption | exact Nat.le_of_ble_eq_true rfl) only [go_sem, ↓mwp_block, simprocAttr, e38, e39])
  refine cond_dec (fun hlt => ?_) (fun hlt => ?_)
  · have hiD : i < D.ps.length := by omega
    have hiC : i < C.ps.length := by omega
    obtain ⟨b1, o1, hA1, hr1⟩ := (r' S).ps.at hiC
    obtain ⟨b2, o2, hA2, hr2⟩ := (q' S).ps.at hiD
    have hst := take_snoc htk hiC hiD
    have hbad : ¬ C.ps[i] = D.ps[i] → ¬ C.ps = D.ps := fun hn e => hn (by simp only [e])
    generalize C.ps[i] = x at *
    generalize D.ps[i] = y at *
    rw [hCe] at S
    ((try clear F); have F := S.all; (try simp only [all_cons, all_nil, says_cell, and_true] at F))
    by_cases he : x = y
    · (try simp (maxSteps := 1000000) (disch := first | omega | assumption | exact Nat.le_of_ble_eq_true rfl) only [go_sem, ↓mwp_block, simprocAttr])
      refine draw_eq ?_
      (try simp (maxSteps := 1000000) (disch := first | omega | assumption | exact Nat.le_of_ble_eq_true rfl) only [go_sem, ↓mwp_block, simprocAttr, e2, e3, F, Cfg.enc, e39, hA1, hA2, hr1, hr2, eqPolK, he])
      refine hJ _ _ ?_ ?_
      · (try simp (maxSteps := 1000000) (disch := first | omega | assumption | exact Nat.le_of_ble_eq_true rfl) only [go_sem, ↓mwp_block, simprocAttr, e2, e3, e38])
        exact ⟨⟨i + 1, rfl, by omega, hst he⟩, by rw [hCe]; exact S⟩
      · (try simp (maxSteps := 1000000) (disch := first | omega | assumption | exact Nat.le_of_ble_eq_true rfl) only [go_sem, ↓mwp_block, simprocAttr, e39])
        omega
    · (try simp (maxSteps := 1000000) (disch := first | omega | assumption | exact Nat.le_of_ble_eq_true rfl) only [go_sem, ↓mwp_block, simprocAttr])
      refine draw_eq ?_
      (try simp (maxSteps := 1000000) (disch := first | omega | assumption | exact Nat.le_of_ble_eq_true rfl) only [go_sem, ↓mwp_block, simprocAttr, e2, e3, F, Cfg.enc, e39, hA1, hA2, hr1, hr2, eqPolK, he])
      exact hK _ _ ⟨by rw [n1 (hbad he)], S.fr⟩
  obtain rfl : i = D.ps.length := by omega
  have g1 := take_all htk k1
  clear hJ
  rw [hCe] at S
  ((try clear F); have F := S.all; (try simp only [all_cons, all_nil, says_cell, and_true] at F))
  (try simp (maxSteps := 1000000) (disch := first | omega | assumption | exact Nat.le_of_ble_eq_true rfl) only [go_sem, ↓mwp_block, simprocAttr, e2, F])
  refine loop_intro (fun ρ h' => ρ 2 = .pointer (some ⟨a, 0, none⟩) ∧ ρ 3 = .pointer (some ⟨b, 0, none⟩) ∧ ρ 56 = .int .i64 D.ss.length ∧ (∃ i : Nat, ρ 57 = .int .i64 i ∧ i ≤ D.ss.length ∧ C.ss.take i = D.ss.take i) ∧
    St h0 h' [cellA b D.enc 26, cellA a C.enc 26]) (fun ρ _ => D.ss.length - (iv (ρ 57)).toNat) ?_ ?_
  · (try simp (maxSteps := 1000000) (disch := first | omega | assumption | exact Nat.le_of_ble_eq_true rfl) only [go_sem, ↓mwp_block, simprocAttr, e2, e3])
    exact ⟨⟨0, rfl, by omega, rfl⟩, by rw [hCe]; exact S⟩
  clear S F e2 e3 e38 e39
  rintro ρ h J hJ ⟨e2, e3, e56, ⟨i, e57, hi, htk⟩, S⟩
  (try simp (maxSteps := 1000000) (disch := first | omega | assumption | exact Nat.le_of_ble_eq_true rfl) only [go_sem, ↓mwp_block, simprocAttr, e56, e57])
  refine cond_dec (fun hlt => ?_) (fun hlt => ?_)
  · have hiD : i < D.ss.length := by omega
    have hiC : i < C.ss.length := by omega
    obtain ⟨b1, o1, hA1, hr1⟩ := (r' S).ss.at hiC
    obtain ⟨b2, o2, hA2, hr2⟩ := (q' S).ss.at hiD
    have hst := take_snoc htk hiC hiD
    have hbad : ¬ C.ss[i] = D.ss[i] → ¬ C.ss = D.ss := fun hn e => hn (by simp only [e])
    generalize C.ss[i] = x at *
    generalize D.ss[i] = y at *
    rw [hCe] at S
    ((try clear F); have F := S.all; (try simp only [all_cons, all_nil, says_cell, and_true] at F))
    by_cases he : x = y
    · (try simp (maxSteps := 1000000) (disch := first | omega | assumption | exact Nat.le_of_ble_eq_true rfl) only [go_sem, ↓mwp_block, simprocAttr])
      refine draw_eq ?_
      (try simp (maxSteps := 1000000) (disch := first | omega | assumption | exact Nat.le_of_ble_eq_true rfl) only [go_sem, ↓mwp_block, simprocAttr, e2, e3, F, Cfg.enc, e57, hA1, hA2, hr1, hr2, eqSupK, he])
      refine hJ _ _ ?_ ?_
      · (try simp (maxSteps := 1000000) (disch := first | omega | assumption | exact Nat.le_of_ble_eq_true rfl) only [go_sem, ↓mwp_block, simprocAttr, e2, e3, e56])
        exact ⟨⟨i + 1, rfl, by omega, hst he⟩, by rw [hCe]; exact S⟩
      · (try simp (maxSteps := 1000000) (disch := first | omega | assumption | exact Nat.le_of_ble_eq_true rfl) only [go_sem, ↓mwp_block, simprocAttr, e57])
        omega
    · (try simp (maxSteps := 1000000) (disch := first | omega | assumption | exact Nat.le_of_ble_eq_true rfl) only [go_sem, ↓mwp_block, simprocAttr])
      refine draw_eq ?_
      (try simp (maxSteps := 1000000) (disch := first | omega | assumption | exact Nat.le_of_ble_eq_true rfl) only [go_sem, ↓mwp_block, simprocAttr, e2, e3, F, Cfg.enc, e57, hA1, hA2, hr1, hr2, eqSupK, he])
      exact hK _ _ ⟨by rw [n2 (hbad he)], S.fr⟩
  obtain rfl : i = D.ss.length := by omega
  have g2 := take_all htk k2
  clear hJ
  rw [hCe] at S
  ((try clear F); have F := S.all; (try simp only [all_cons, all_nil, says_cell, and_true] at F))
  (try simp (maxSteps := 1000000) (disch := first | omega | assumption | exact Nat.le_of_ble_eq_true rfl) only [go_sem, ↓mwp_block, simprocAttr, e2, F])
  refine loop_intro (fun ρ h' => ρ 2 = .pointer (some ⟨a, 0, none⟩) ∧ ρ 3 = .pointer (some ⟨b, 0, none⟩) ∧ ρ 74 = .int .i64 D.os.length ∧ (∃ i : Nat, ρ 75 = .int .i64 i ∧ i ≤ D.os.length ∧ (C.os.map Odr.pu).take i = (D.os.map Odr.pu).take i) ∧
    St h0 h' [cellA b D.enc 26, cellA a C.enc 26]) (fun ρ _ => D.os.length - (iv (ρ 75)).toNat) ?_ ?_
  · (try simp (maxSteps := 1000000) (disch := first | omega | assumption | exact Nat.le_of_ble_eq_true rfl) only [go_sem, ↓mwp_block, simprocAttr, e2, e3])
    exact ⟨⟨0, rfl, by omega, rfl⟩, by rw [hCe]; exact S⟩
  clear S F e2 e3 e56 e57
  rintro ρ h J hJ ⟨e2, e3, e74, ⟨i, e75, hi, htk⟩, S⟩
  (try simp (maxSteps := 1000000) (disch := first | omega | assumption | exact Nat.le_of_ble_eq_true rfl) only [go_sem, ↓mwp_block, simprocAttr, e74, e75])
  refine cond_dec (fun hlt => ?_) (fun hlt => ?_)
  · have hiD : i < D.os.length := by omega
    have hiC : i < C.os.length := by omega
    obtain ⟨b1, o1, hA1, hr1⟩ := (r' S).os.at hiC
    obtain ⟨b2, o2, hA2, hr2⟩ := (q' S).os.at hiD
    have hN1 : ∀ {h' : Heap} {l' : List HP}, St h0 h' l' → rdN h' b1 (o1 + i * 5) 5 = some C.os[i].enc := fun s => by
      obtain ⟨b', o', e, hr⟩ := (r' s).os.at hiC
      rw [hA1] at e
      cases e
      exact hr
    have hN2 : ∀ {h' : Heap} {l' : List HP}, St h0 h' l' → rdN h' b2 (o2 + i * 5) 5 = some D.os[i].enc := fun s => by
      obtain ⟨b', o', e, hr⟩ := (q' s).os.at hiD
      rw [hA2] at e
      cases e
      exact hr
    have hrl := fun {h'} {l'} (S : St h0 h' l') => (r' S).ls _ (List.getElem_mem hiC)
    have hql := fun {h'} {l'} (S : St h0 h' l') => (q' S).ls _ (List.getElem_mem hiD)
    have hxl := l4 _ (List.getElem_mem hiC)
    have hst : C.os[i].pu = D.os[i].pu → (C.os.map Odr.pu).take (i + 1) = (D.os.map Odr.pu).take (i + 1) := fun e => take_snoc htk (by simpa using hiC) (by simpa using hiD) (by simpa using e)
    have hbad : ¬ C.os[i].pu = D.os[i].pu → dcd (C.pu = D.pu) = false := fun hn => n3 fun e => hn (by
      have h1 : (C.os.map Odr.pu)[i]'(by simpa using hiC) = (D.os.map Odr.pu)[i]'(by simpa using hiD) := by simp only [e]
      simpa using h1)
    generalize C.os[i] = x at *
    generalize D.os[i] = y at *
    rw [hCe] at S
    ((try clear F); have F := S.all; (try simp only [all_cons, all_nil, says_cell, and_true] at F))
    have S : St h0 h [cellA b [.slice D.A1 D.os.length D.c1, .slice D.A2 D.ss.length D.c2, .slice D.A3 D.ps.length D.c3] 26, cellA a [.slice C.A1 D.os.length C.c1, .slice C.A2 D.ss.length C.c2, .slice C.A3 D.ps.length C.c3] 26] := S
    rw [hA1, hA2] at S
    have ra : ∀ K t, readT (fun h' => St h0 h' _) (fun h' => rd1 h' (.pointer (some ⟨a, 0, none⟩))) K t = bindT (some (.slice (some ⟨b1, o1, none⟩) D.os.length C.c1)) K ⟨⟩ := fun K t => reads_of S (fun h' s => st_rd1 s.p1)
    have rb : ∀ K t, readT (fun h' => St h0 h' _) (fun h' => rd1 h' (.pointer (some ⟨b, 0, none⟩))) K t = bindT (some (.slice (some ⟨b2, o2, none⟩) D.os.length D.c1)) K ⟨⟩ := fun K t => reads_of S (fun h' s => st_rd1 s)
    have rn1 : ∀ K t, readT (fun h' => St h0 h' _) (fun h' => bindV (rdN h' b1 (o1 + i * 5) 5) fun cs => some (Value.agg cs.toArray)) K t = bindT (some (.agg x.enc.toArray)) K ⟨⟩ := fun K t => reads_of S (fun h' s => by rw [hN1 s]; rfl)
    have rn2 : ∀ K t, readT (fun h' => St h0 h' _) (fun h' => bindV (rdN h' b2 (o2 + i * 5) 5) fun cs => some (Value.agg cs.toArray)) K t = bindT (some (.agg y.enc.toArray)) K ⟨⟩ := fun K t => reads_of S (fun h' s => by rw [hN2 s]; rfl)
    (try simp (maxSteps := 1000000) (disch := first | omega | assumption | exact Nat.le_of_ble_eq_true rfl) only [go_sem, ↓mwp_block, simprocAttr])
    refine cut_st S (fun ρ' h' => ρ' 2 = .pointer (some ⟨a, 0, none⟩) ∧ ρ' 3 = .pointer (some ⟨b, 0, none⟩) ∧ ρ' 74 = .int .i64 D.os.length ∧ ρ' 75 = .int .i64 i ∧ ∃ p q, ρ' 8 = .pointer (some ⟨p, 0, none⟩) ∧ ρ' 9 = .pointer (some ⟨q, 0, none⟩) ∧
      St h0 h' [cellA p x.enc 40, cellA q y.enc 40, cellA b D.enc 26, cellA a C.enc 26]) ?_ ?_
    · intro J' hJ'
      (try simp (maxSteps := 1000000) (disch := first | omega | assumption | exact Nat.le_of_ble_eq_true rfl) only [go_sem, ↓mwp_block, simprocAttr, e2, e3, ra, rb, rn1, rn2, e75])
      clear ra rb rn1 rn2
      have hCx : C.enc = [.slice (some ⟨b1, o1, none⟩) D.os.length C.c1, .slice C.A2 D.ss.length C.c2, .slice C.A3 D.ps.length C.c3] := by rw [hCe, hA1]
      have hDx : D.enc = [.slice (some ⟨b2, o2, none⟩) D.os.length D.c1, .slice D.A2 D.ss.length D.c2, .slice D.A3 D.ps.length D.c3] := by rw [Cfg.enc, hA2]
      rw [hCx, hDx] at hJ'
      refine ⟨?_, ?_⟩
      · (refine st_alloc S ?_; clear S; intro p h S; (try simp only [splice_cons, splice_nil, List.set_cons_zero, List.set_cons_succ, Nat.zero_add, Nat.reduceAdd, List.cons_append, List.nil_append] at S); ((try clear F); have F := S.all; (try simp only [all_cons, all_nil, says_cell, and_true] at F)))
        refine ⟨S.tl, ?_⟩
        (try simp (maxSteps := 1000000) (disch := first | omega | assumption | exact Nat.le_of_ble_eq_true rfl) only [go_sem, ↓mwp_block, simprocAttr])
        (refine st_alloc S ?_; clear S; intro q h S; (try simp only [splice_cons, splice_nil, List.set_cons_zero, List.set_cons_succ, Nat.zero_add, Nat.reduceAdd, List.cons_append, List.nil_append] at S); ((try clear F); have F := S.all; (try simp only [all_cons, all_nil, says_cell, and_true] at F)))
        refine ⟨S.tl.tl, ?_⟩
        (try simp (maxSteps := 1000000) (disch := first | omega | assumption | exact Nat.le_of_ble_eq_true rfl) only [go_sem, ↓mwp_block, simprocAttr, Odr.enc])
        refine st_store S.p1 rfl rfl (Nat.le_of_ble_eq_true rfl) ?_
        clear S F
        intro h S
        refine ⟨S.tl.tl, ?_⟩
        (try simp (maxSteps := 1000000) (disch := first | omega | assumption | exact Nat.le_of_ble_eq_true rfl) only [go_sem, ↓mwp_block, simprocAttr])
        refine st_store S.p1 rfl rfl (Nat.le_of_ble_eq_true rfl) ?_
        clear S
        intro h S
        (try simp (maxSteps := 1000000) (disch := first | omega | assumption | exact Nat.le_of_ble_eq_true rfl) only [go_sem, ↓mwp_block, simprocAttr])
        refine hJ' _ _ ?_
        (try simp (maxSteps := 1000000) (disch := first | omega | assumption | exact Nat.le_of_ble_eq_true rfl) only [go_sem, ↓mwp_block, simprocAttr, e2, e3, e74, e75])
        exact ⟨p, q, rfl, rfl, S.p1⟩
      · (refine st_alloc S ?_; clear S; intro q h S; (try simp only [splice_cons, splice_nil, List.set_cons_zero, List.set_cons_succ, Nat.zero_add, Nat.reduceAdd, List.cons_append, List.nil_append] at S); ((try clear F); have F := S.all; (try simp only [all_cons, all_nil, says_cell, and_true] at F)))
        refine ⟨S.tl, ?_⟩
        (try simp (maxSteps := 1000000) (disch := first | omega | assumption | exact Nat.le_of_ble_eq_true rfl) only [go_sem, ↓mwp_block, simprocAttr])
        (refine st_alloc S ?_; clear S; intro p h S; (try simp only [splice_cons, splice_nil, List.set_cons_zero, List.set_cons_succ, Nat.zero_add, Nat.reduceAdd, List.cons_append, List.nil_append] at S); ((try clear F); have F := S.all; (try simp only [all_cons, all_nil, says_cell, and_true] at F)))
        refine ⟨S.tl.tl, ?_⟩
        (try simp (maxSteps := 1000000) (disch := first | omega | assumption | exact Nat.le_of_ble_eq_true rfl) only [go_sem, ↓mwp_block, simprocAttr, Odr.enc])
        refine st_store S rfl rfl (Nat.le_of_ble_eq_true rfl) ?_
        clear S F
        intro h S
        refine ⟨S.tl.tl, ?_⟩
        (try simp (maxSteps := 1000000) (disch := first | omega | assumption | exact Nat.le_of_ble_eq_true rfl) only [go_sem, ↓mwp_block, simprocAttr])
        refine st_store S.p1 rfl rfl (Nat.le_of_ble_eq_true rfl) ?_
        clear S
        intro h S
        (try simp (maxSteps := 1000000) (disch := first | omega | assumption | exact Nat.le_of_ble_eq_true rfl) only [go_sem, ↓mwp_block, simprocAttr])
        refine hJ' _ _ ?_
        (try simp (maxSteps := 1000000) (disch := first | omega | assumption | exact Nat.le_of_ble_eq_true rfl) only [go_sem, ↓mwp_block, simprocAttr, e2, e3, e74, e75])
        exact ⟨p, q, rfl, rfl, S.p1⟩
    clear S ra rb rn1 rn2 hN1 hN2 hr1 hr2
    have p75 := e75
    clear e2 e3 e74 e75
    rintro ρ' h ⟨e2, e3, e74, e75, p, q, e8, e9, S⟩
    ((try clear F); have F := S.all; (try simp only [all_cons, all_nil, says_cell, and_true] at F))
    by_cases c1 : x.day = y.day
    case neg =>
      (try simp (maxSteps := 1000000) (disch := first | omega | assumption | exact Nat.le_of_ble_eq_true rfl) only [go_sem, ↓mwp_block, simprocAttr, e8, e9, F, Odr.enc, c1])
      exact hK _ _ ⟨by rw [hbad (fun e => c1 (congrArg (fun z => z.1) e))], S.fr⟩
    by_cases c2 : x.disc = y.disc
    case neg =>
      (try simp (maxSteps := 1000000) (disch := first | omega | assumption | exact Nat.le_of_ble_eq_true rfl) only [go_sem, ↓mwp_block, simprocAttr, e8, e9, F, Odr.enc, c1, c2])
      exact hK _ _ ⟨by rw [hbad (fun e => c2 (congrArg (fun z => z.2.1) e))], S.fr⟩
    by_cases c3 : x.tax = y.tax
    case neg =>
      (try simp (maxSteps := 1000000) (disch := first | omega | assumption | exact Nat.le_of_ble_eq_true rfl) only [go_sem, ↓mwp_block, simprocAttr, e8, e9, F, Odr.enc, c1, c2, c3])
      exact hK _ _ ⟨by rw [hbad (fun e => c3 (congrArg (fun z => z.2.2.1) e))], S.fr⟩
    by_cases c4 : x.ship = y.ship
    case neg =>
      (try simp (maxSteps := 1000000) (disch := first | omega | assumption | exact Nat.le_of_ble_eq_true rfl) only [go_sem, ↓mwp_block, simprocAttr, e8, e9, F, Odr.enc, c1, c2, c3, c4])
      exact hK _ _ ⟨by rw [hbad (fun e => c4 (congrArg (fun z => z.2.2.2.1) e))], S.fr⟩
    by_cases c5 : (x.ls.length : Int) = y.ls.length
    case neg =>
      (try simp (maxSteps := 1000000) (disch := first | omega | assumption | exact Nat.le_of_ble_eq_true rfl) only [go_sem, ↓mwp_block, simprocAttr, e8, e9, F, Odr.enc, c1, c2, c3, c4, c5])
      exact hK _ _ ⟨by rw [hbad (fun e => c5 (by have := congrArg (fun z => z.2.2.2.2.length) e; simp only [Odr.pu] at this; omega))], S.fr⟩
    have c6 : x.ls.length = y.ls.length := by omega
    have hbl : ¬ x.ls = y.ls → dcd (C.pu = D.pu) = false := fun hn => hbad fun e => hn (congrArg (fun z => z.2.2.2.2) e)
    have hpu : x.ls = y.ls → x.pu = y.pu := fun e => by simp only [Odr.pu, c1, c2, c3, c4, e]
    have hxe : x.enc = [.int .i64 x.day, .slice x.A y.ls.length x.c, .int .i64 x.disc, .int .i64 x.tax, .int .i64 x.ship] := by rw [Odr.enc, c6]
    rw [hxe] at S
    ((try clear F); have F := S.all; (try simp only [all_cons, all_nil, says_cell, and_true] at F))
    (try simp (maxSteps := 1000000) (disch := first | omega | assumption | exact Nat.le_of_ble_eq_true rfl) only [go_sem, ↓mwp_block, simprocAttr, e8, e9, F, Odr.enc, c1, c2, c3, c4])
    refine loop_intro (fun ρ'' h' => h' = h ∧ ρ'' 2 = ρ' 2 ∧ ρ'' 3 = ρ' 3 ∧ ρ'' 74 = ρ' 74 ∧ ρ'' 75 = ρ' 75 ∧ ρ'' 8 = .pointer (some ⟨p, 0, none⟩) ∧ ρ'' 9 = .pointer (some ⟨q, 0, none⟩) ∧ ρ'' 125 = .int .i64 y.ls.length ∧ ∃ k : Nat, ρ'' 126 = .int .i64 k ∧ k ≤ y.ls.length ∧ x.ls.take k = y.ls.take k) (fun ρ'' _ => y.ls.length - (iv (ρ'' 126)).toNat) ?_ ?_
    · (try simp (maxSteps := 1000000) (disch := first | omega | assumption | exact Nat.le_of_ble_eq_true rfl) only [go_sem, ↓mwp_block, simprocAttr])
      exact ⟨e8, e9, 0, rfl, by omega, rfl⟩
    rintro ρ'' h' J' hJ' ⟨rfl, q2, q3, q74, q75, q8, q9, q125, k, q126, hk, htl⟩
    (try simp (maxSteps := 1000000) (disch := first | omega | assumption | exact Nat.le_of_ble_eq_true rfl) only [go_sem, ↓mwp_block, simprocAttr, q125, q126])
    refine cond_dec (fun hkl => ?_) (fun hkl => ?_)
    · have hky : k < y.ls.length := by omega
      have hkx : k < x.ls.length := by omega
      obtain ⟨b3, o3, hA3, hr3⟩ := (hrl S).at hkx
      obtain ⟨b4, o4, hA4, hr4⟩ := (hql S).at hky
      have hsk := take_snoc htl hkx hky
      have hbk : ¬ x.ls[k] = y.ls[k] → ¬ x.ls = y.ls := fun hn e => hn (by simp only [e])
      generalize x.ls[k] = u at *
      generalize y.ls[k] = w at *
      by_cases he : u = w
      · (try simp (maxSteps := 1000000) (disch := first | omega | assumption | exact Nat.le_of_ble_eq_true rfl) only [go_sem, ↓mwp_block, simprocAttr])
        refine draw_eq ?_
        (try simp (maxSteps := 1000000) (disch := first | omega | assumption | exact Nat.le_of_ble_eq_true rfl) only [go_sem, ↓mwp_block, simprocAttr, q8, q9, F, Odr.enc, q126, hA3, hA4, hr3, hr4, eqLinK, he])
        refine hJ' _ _ ?_ ?_
        · (try simp (maxSteps := 1000000) (disch := first | omega | assumption | exact Nat.le_of_ble_eq_true rfl) only [go_sem, ↓mwp_block, simprocAttr, q2, q3, q74, q75, q8, q9, q125])
          exact ⟨k + 1, rfl, by omega, hsk he⟩
        · (try simp (maxSteps := 1000000) (disch := first | omega | assumption | exact Nat.le_of_ble_eq_true rfl) only [go_sem, ↓mwp_block, simprocAttr, q126])
          omega
      · (try simp (maxSteps := 1000000) (disch := first | omega | assumption | exact Nat.le_of_ble_eq_true rfl) only [go_sem, ↓mwp_block, simprocAttr])
        refine draw_eq ?_
        (try simp (maxSteps := 1000000) (disch := first | omega | assumption | exact Nat.le_of_ble_eq_true rfl) only [go_sem, ↓mwp_block, simprocAttr, q8, q9, F, Odr.enc, q126, hA3, hA4, hr3, hr4, eqLinK, he])
        exact hK _ _ ⟨by rw [hbl (hbk he)], S.fr⟩
    · obtain rfl : k = y.ls.length := by omega
      have hll := take_all htl c6
      (try simp (maxSteps := 1000000) (disch := first | omega | assumption | exact Nat.le_of_ble_eq_true rfl) only [go_sem, ↓mwp_block, simprocAttr, q75, e75])
      refine hJ _ _ ?_ ?_
      · (try simp (maxSteps := 1000000) (disch := first | omega | assumption | exact Nat.le_of_ble_eq_true rfl) only [go_sem, ↓mwp_block, simprocAttr, q2, e2, q3, e3, q74, e74])
        exact ⟨⟨i + 1, rfl, by omega, hst (hpu hll)⟩, S.tl.tl⟩
      · (try simp (maxSteps := 1000000) (disch := first | omega | assumption | exact Nat.le_of_ble_eq_true rfl) only [go_sem, ↓mwp_block, simprocAttr, p75])
        omega
  · obtain rfl : i = D.os.length := by omega
    have g3 : C.os.map Odr.pu = D.os.map Odr.pu := take_all (by rw [List.length_map]; exact htk) (by rw [List.length_map, List.length_map]; exact k3)
    (try simp (maxSteps := 1000000) (disch := first | omega | assumption | exact Nat.le_of_ble_eq_true rfl) only [go_sem, ↓mwp_block, simprocAttr])
    exact hK _ _ ⟨by rw [dcd_true]; simp only [Cfg.pu, g1, g2, g3], S.fr⟩
end Go.Proofs.Ytblalmgahfbalaa.MX
