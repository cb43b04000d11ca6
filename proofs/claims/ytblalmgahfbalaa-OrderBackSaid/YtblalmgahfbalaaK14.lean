/- Texts in one file: Od3, Sp1. -/
import Derived.Test.YtblalmgahfbalaaK13
import Derived.Test.YtblalmgahfbalaaK08
import Derived.Test.YtblalmgahfbalaaK12
import Derived.Test.YtblalmgahfbalaaIR

/- Orders: which configs are right. -/
namespace Go.Proofs.Ytblalmgahfbalaa.MX
open Go Go.Proofs
set_option linter.unusedSimpArgs false
set_option linter.unusedVariables false
set_option maxHeartbeats 8000000
theorem arrTake {α : Type} {enc : α → List Value} {sz : Nat} {h : Heap} {A : Option Addr} {xs : List α} (ha : Arr enc sz h A xs) (k : Nat) : Arr enc sz h A (xs.take k) := by
  intro i hi
  rw [List.length_take] at hi
  obtain ⟨b, off, e, hr⟩ := ha i (by omega)
  exact ⟨b, off, e, by rw [List.getElem_take]; exact hr⟩
def ordSum (os : List Odr) : Int := (os.map fun o => cntOf o.ls).sum
def supSum (ss : List Sup) : Int := (ss.map Sup.count).sum
theorem ordSum_snoc {os : List Odr} {i : Nat} (hi : i < os.length) : ordSum (os.take (i + 1)) = ordSum (os.take i) + cntOf os[i].ls := by
  rw [List.take_succ_eq_append_getElem hi, ordSum, List.map_append, List.sum_append]
  simp [ordSum]
theorem supSum_snoc {ss : List Sup} {i : Nat} (hi : i < ss.length) : supSum (ss.take (i + 1)) = supSum (ss.take i) + ss[i].count := by
  rw [List.take_succ_eq_append_getElem hi, supSum, List.map_append, List.sum_append]
  simp [supSum]
theorem ord_bound {k : Int} : ∀ {os : List Odr}, (∀ o ∈ os, okOrder k o) → 0 ≤ ordSum os ∧ ordSum os ≤ 400 * os.length
  | [], _ => by simp [ordSum]
  | x :: os, h => by
    obtain ⟨⟨_, hx, _⟩, h1, _⟩ := h x (by simp)
    have h1 := all_bound h1
    have h2 := ord_bound (os := os) fun y hy => h y (by simp [hy])
    unfold ordSum at h2 ⊢
    simp only [List.map_cons, List.sum_cons, List.length_cons]
    omega
theorem sup_bound : ∀ {ss : List Sup}, (∀ s ∈ ss, okSup s) → 0 ≤ supSum ss ∧ supSum ss ≤ 50 * ss.length
  | [], _ => by simp [supSum]
  | x :: ss, h => by
    obtain ⟨_, _, h1⟩ := h x (by simp)
    have h2 := sup_bound (ss := ss) fun y hy => h y (by simp [hy])
    unfold supSum at h2 ⊢
    simp only [List.map_cons, List.sum_cons, List.length_cons]
    omega
theorem sups_snoc {ss : List Sup} {i : Nat} (hi : i < ss.length) (h : okSups (ss.take i)) (hs : okSup ss[i]) (hn : ¬ ∃ x ∈ ss.take i, x.sku = ss[i].sku) : okSups (ss.take (i + 1)) := by
  rw [List.take_succ_eq_append_getElem hi]
  refine ⟨fun x hx => ?_, ?_⟩
  · rcases List.mem_append.1 hx with hx | hx
    · exact h.1 x hx
    · rw [List.mem_singleton] at hx; rw [hx]; exact hs
  · rw [List.pairwise_append]
    refine ⟨h.2, by simp, fun a ha b hb => ?_⟩
    rw [List.mem_singleton] at hb
    rw [hb]
    exact fun e => hn ⟨a, ha, e⟩
theorem sups_no {ss : List Sup} {i : Nat} (hi : i < ss.length) (h : okSups ss) : okSup ss[i] ∧ ¬ ∃ x ∈ ss.take i, x.sku = ss[i].sku := by
  refine ⟨h.1 _ (List.getElem_mem hi), ?_⟩
  rintro ⟨x, hx, e⟩
  have hp := h.2
  rw [show ss = ss.take i ++ ss.drop i from (List.take_append_drop i ss).symm, List.pairwise_append] at hp
  exact hp.2.2 x hx ss[i] (by rw [List.drop_eq_getElem_cons hi]; exact List.mem_cons_self ..) e
section
variable {h0 h : Heap} {l : List HP}
theorem supAsk {p : Nat} {s : Sup} (S : St h0 h (cellA p s.enc 57 :: l)) : Asks Try.prog Sup.enc h [] (.func (.func 28) #[] (List.toArray [.pointer (some ⟨p, 0, none⟩)])) fun m => dcd (m.sku = s.sku) := by
  refine ⟨_, _, rfl, ok_order_Right_1, fun x h' hf => ?_⟩
  have S := S.frame hf
  have S2 : St h' h' [] := St.nil h'
  have hr : ∀ h'', Fr h' h'' [] → rd1 h'' (.pointer (some ⟨p, 0, none⟩)) = some (.int .i64 s.sku) := fun h'' hf => st_rd1 (S.frame hf)
  (refine enterK c_order_Right_1 (Nat.le_of_ble_eq_true rfl) fun K hK => ?_; (try simp (maxSteps := 1000000) (disch := first | omega | assumption | exact Nat.le_of_ble_eq_true rfl) only [go_sem, ↓mwp_block, simprocAttr, ir_order_Right_1]))
  refine st_alloc S2 ?_
  clear S2
  intro b h'' S2
  ((try clear F); have F := S.all; (try simp only [all_cons, all_nil, says_cell, and_true] at F))
  clear F
  have F := S2.all
  simp only [all_cons, all_nil, says_cell, and_true] at F
  (try simp (maxSteps := 1000000) (disch := first | omega | assumption | exact Nat.le_of_ble_eq_true rfl) only [go_sem, ↓mwp_block, simprocAttr, F, Sup.enc, hr _ S2.fr])
  exact hK _ _ ⟨rfl, S2.fr⟩
theorem ContainsS_ok {p n c : Nat} {s : Sup} {A : Option Addr} {xs : List Sup} (S : St h0 h (cellA p s.enc 57 :: l)) (ha : Arr Sup.enc 3 h A xs) (hn : n = xs.length) (hl : xs.length < 1000000) :
    CallsH Try.prog 27 [.slice A n c, .func (.func 28) #[] (List.toArray [.pointer (some ⟨p, 0, none⟩)])] h fun v h' => v = .bool (dcd (∃ x ∈ xs, x.sku = s.sku)) ∧ Fr h h' [] := by
  subst hn
  (refine enterK c_slices_ContainsFunc_api_Supply_api_Supply (Nat.le_of_ble_eq_true rfl) fun K hK => ?_; (try simp (maxSteps := 1000000) (disch := first | omega | assumption | exact Nat.le_of_ble_eq_true rfl) only [go_sem, ↓mwp_block, simprocAttr, ir_slices_ContainsFunc_api_Supply_api_Supply]))
  refine call_intro (indexFunc_ok (sz := 3) (p := fun m : Sup => dcd (m.sku = s.sku)) c_slices_IndexFunc_api_Supply_api_Supply ha rfl (by omega) (supAsk S)) ?_
  rintro _ h1 ⟨rfl, hf⟩
  rcases idxOf_spec (fun m : Sup => dcd (m.sku = s.sku)) xs 0 with ⟨hx, hall⟩ | ⟨i, hx, hil, hbef, hat⟩
  · have hx : idxOf (fun m : Sup => dcd (m.sku = s.sku)) xs 0 = -1 := hx
    (try simp (maxSteps := 1000000) (disch := first | omega | assumption | exact Nat.le_of_ble_eq_true rfl) only [go_sem, ↓mwp_block, simprocAttr, hx])
    refine hK _ _ ⟨?_, hf⟩
    rw [dcd_false]
    rintro ⟨p, hp, hn⟩
    have := hall p hp
    rw [dcd_true hn] at this
    cases this
  · have hx : idxOf (fun m : Sup => dcd (m.sku = s.sku)) xs 0 = (i : Int) := by simpa using hx
    (try simp (maxSteps := 1000000) (disch := first | omega | assumption | exact Nat.le_of_ble_eq_true rfl) only [go_sem, ↓mwp_block, simprocAttr, hx])
    refine hK _ _ ⟨?_, hf⟩
    have := hat xs[i] (List.getElem?_eq_getElem hil)
    rw [dcd_true]
    exact ⟨xs[i], List.getElem_mem hil, of_dcd_true this⟩
end
theorem ORight_ok {h0 : Heap} (C : Cfg) (r : C.rd h0) (w : C.wf) (l1 : C.os.length < 1000000) (l2 : C.ss.length < 1000000) (l3 : C.ps.length < 1000000) (l4 : ∀ o ∈ C.os, o.ls.length < 1000000) :
    CallsH Try.prog 12 [.agg C.enc.toArray] h0 fun v h' => v = .bool (dcd (okCfg C)) ∧ Fr h0 h' [] := by
  have S := St.nil h0
  have r' : ∀ {h' : Heap} {l : List HP}, St h0 h' l → C.rd h' := fun S => r.fr S.fr
  (refine enterK c_order_Right (Nat.le_of_ble_eq_true rfl) fun K hK => ?_; (try simp (maxSteps := 1000000) (disch := first | omega | assumption | exact Nat.le_of_ble_eq_true rfl) only [go_sem, ↓mwp_block, simprocAttr, ir_order_Right]))
  (refine st_alloc S ?_; clear S; intro g h S; (try simp only [splice_cons, splice_nil, List.set_cons_zero, List.set_cons_succ, Nat.zero_add, Nat.reduceAdd, List.cons_append, List.nil_append] at S); ((try clear F); have F := S.all; (try simp only [all_cons, all_nil, says_cell, and_true] at F)))
  (try simp (maxSteps := 1000000) (disch := first | omega | assumption | exact Nat.le_of_ble_eq_true rfl) only [go_sem, ↓mwp_block, simprocAttr, F, Cfg.enc])
  refine call_intro (Right_ok (r' S).ps rfl l3) ?_
  rintro _ h ⟨rfl, hf⟩
  have S := S.frame hf
  by_cases d1 : RightT C.ps
  case neg =>
    rw [dcd_false d1]
    (try simp (maxSteps := 1000000) (disch := first | omega | assumption | exact Nat.le_of_ble_eq_true rfl) only [go_sem, ↓mwp_block, simprocAttr])
    exact hK _ _ ⟨by rw [dcd_false (fun h => d1 h.1)], S.fr⟩
  rw [dcd_true d1]
  ((try clear F); have F := S.all; (try simp only [all_cons, all_nil, says_cell, and_true] at F))
  by_cases d2 : 20 < (C.os.length : Int)
  · (try simp (maxSteps := 1000000) (disch := first | omega | assumption | exact Nat.le_of_ble_eq_true rfl) only [go_sem, ↓mwp_block, simprocAttr, F, Cfg.enc, d2])
    exact hK _ _ ⟨by rw [dcd_false (fun h => by have := h.2.1; omega)], S.fr⟩
  by_cases d3 : 20 < (C.ss.length : Int)
  · (try simp (maxSteps := 1000000) (disch := first | omega | assumption | exact Nat.le_of_ble_eq_true rfl) only [go_sem, ↓mwp_block, simprocAttr, F, Cfg.enc, d2, d3])
    exact hK _ _ ⟨by rw [dcd_false (fun h => by have := h.2.2.1; omega)], S.fr⟩
  (try simp (maxSteps := 1000000) (disch := first | omega | assumption | exact Nat.le_of_ble_eq_true rfl) only [go_sem, ↓mwp_block, simprocAttr, F, Cfg.enc, d2, d3])
  refine loop_intro (fun ρ h' => ρ 1 = .pointer (some ⟨g, 0, none⟩) ∧ ρ 27 = .slice C.A1 C.os.length C.c1 ∧ ρ 28 = .int .i64 C.os.length ∧ ∃ i : Nat, ρ 29 = .int .i64 i ∧ i ≤ C.os.length ∧ (∀ o ∈ C.os.take i, okOrder C.ps.length o) ∧ ρ 3 = .int .i64 (ordSum (C.os.take i)) ∧
    St h0 h' [cellA g C.enc 26]) (fun ρ _ => C.os.length - (iv (ρ 29)).toNat) ?_ ?_
  · (try simp (maxSteps := 1000000) (disch := first | omega | assumption | exact Nat.le_of_ble_eq_true rfl) only [go_sem, ↓mwp_block, simprocAttr])
    exact ⟨0, rfl, by omega, by simp, rfl, S⟩
  clear S F
  rintro ρ h J hJ ⟨e1, e27, e28, i, e29, hi, hok, e3, S⟩
  (try simp (maxSteps := 1000000) (disch := first | omega | assumption | exact Nat.le_of_ble_eq_true rfl) only [go_sem, ↓mwp_block, simprocAttr, e28, e29])
  refine cond_dec (fun hlt => ?_) (fun hlt => ?_)
  · have hil : i < C.os.length := by omega
    obtain ⟨b, off, hA, hr1⟩ := (r' S).os.at hil
    have hmem := List.getElem_mem hil
    have hlb := ord_bound hok
    have hlen : (C.os.take i).length ≤ 20 := by rw [List.length_take]; omega
    have hs1 := ordSum_snoc hil
    have hll := l4 _ hmem
    have hrl := fun {h'} {l'} (S : St h0 h' l') => (r' S).ls _ hmem
    have hbad : ¬ okOrder C.ps.length C.os[i] → ¬ okCfg C := fun hn h => hn (h.2.2.2.1 _ hmem)
    have htk : okOrder C.ps.length C.os[i] → ∀ o ∈ C.os.take (i + 1), okOrder C.ps.length o := fun hx o ho => by
      rw [List.take_succ_eq_append_getElem hil] at ho
      rcases List.mem_append.1 ho with ho | ho
      · exact hok o ho
      · rw [List.mem_singleton] at ho; rw [ho]; exact hx
    generalize C.os[i] = x at *
    (try simp (maxSteps := 1000000) (disch := first | omega | assumption | exact Nat.le_of_ble_eq_true rfl) only [go_sem, ↓mwp_block, simprocAttr, e27, e29, hA, hr1])
    (refine st_alloc S ?_; clear S; intro q h S; (try simp only [splice_cons, splice_nil, List.set_cons_zero, List.set_cons_succ, Nat.zero_add, Nat.reduceAdd, List.cons_append, List.nil_append] at S); ((try clear F); have F := S.all; (try simp only [all_cons, all_nil, says_cell, and_true] at F)))
    (try simp (maxSteps := 1000000) (disch := first | omega | assumption | exact Nat.le_of_ble_eq_true rfl) only [go_sem, ↓mwp_block, simprocAttr, F, Odr.enc])
    (refine st_store (by first | exact S | exact S.p1 | exact S.p2 | exact S.p3 | exact S.p4 | exact S.p5 | exact S.p6 | exact S.p7 | exact S.p8 | exact S.p9 | exact S.p10 | exact S.p11) (by rfl) (by rfl) (Nat.le_of_ble_eq_true rfl) ?_; clear S; intro h S; (try simp only [splice_cons, splice_nil, List.set_cons_zero, List.set_cons_succ, Nat.zero_add, Nat.reduceAdd, List.cons_append, List.nil_append] at S); ((try clear F); have F := S.all; (try simp only [all_cons, all_nil, says_cell, and_true] at F)))
    (try simp (maxSteps := 1000000) (disch := first | omega | assumption | exact Nat.le_of_ble_eq_true rfl) only [go_sem, ↓mwp_block, simprocAttr, F, e1, Cfg.enc])
    refine call_intro (rightOrder_ok x C.ps.length (hrl S) (by omega)) ?_
    rintro _ h ⟨⟨n, rfl, hn⟩, hf⟩
    have S := S.frame hf
    by_cases c1 : okOrder C.ps.length x
    case neg =>
      rw [dcd_false c1]
      (try simp (maxSteps := 1000000) (disch := first | omega | assumption | exact Nat.le_of_ble_eq_true rfl) only [go_sem, ↓mwp_block, simprocAttr])
      exact hK _ _ ⟨by rw [dcd_false (hbad c1)], S.fr⟩
    rw [dcd_true c1, hn c1]
    have hxb := all_bound c1.2.1
    have w1 : IntKind.i64.wrap (ordSum (C.os.take i) + cntOf x.ls) = ordSum (C.os.take i) + cntOf x.ls := by
      have := c1.1.2.1
      exact wrap_i64 (by omega) (by omega)
    (try simp (maxSteps := 1000000) (disch := first | omega | assumption | exact Nat.le_of_ble_eq_true rfl) only [go_sem, ↓mwp_block, simprocAttr, e3, w1, e29])
    refine hJ _ _ ?_ ?_
    · (try simp (maxSteps := 1000000) (disch := first | omega | assumption | exact Nat.le_of_ble_eq_true rfl) only [go_sem, ↓mwp_block, simprocAttr, e1, e27, e28, hA])
      exact ⟨i + 1, rfl, by omega, htk c1, by rw [hs1], S.tl⟩
    · (try simp (maxSteps := 1000000) (disch := first | omega | assumption | exact Nat.le_of_ble_eq_true rfl) only [go_sem, ↓mwp_block, simprocAttr, e29])
      omega
  obtain rfl : i = C.os.length := by omega
  rw [List.take_length] at hok e3
  clear hJ
  have hob := ord_bound hok
  ((try clear F); have F := S.all; (try simp only [all_cons, all_nil, says_cell, and_true] at F))
  (try simp (maxSteps := 1000000) (disch := first | omega | assumption | exact Nat.le_of_ble_eq_true rfl) only [go_sem, ↓mwp_block, simprocAttr, e1, F, Cfg.enc])
  refine loop_intro (fun ρ h' => ρ 1 = .pointer (some ⟨g, 0, none⟩) ∧ ρ 48 = .slice C.A2 C.ss.length C.c2 ∧ ρ 49 = .int .i64 C.ss.length ∧ ∃ i : Nat, ρ 50 = .int .i64 i ∧ i ≤ C.ss.length ∧ okSups (C.ss.take i) ∧ ρ 3 = .int .i64 (ordSum C.os + supSum (C.ss.take i)) ∧
    St h0 h' [cellA g C.enc 26]) (fun ρ _ => C.ss.length - (iv (ρ 50)).toNat) ?_ ?_
  · (try simp (maxSteps := 1000000) (disch := first | omega | assumption | exact Nat.le_of_ble_eq_true rfl) only [go_sem, ↓mwp_block, simprocAttr, e1, e3])
    exact ⟨0, rfl, by omega, ⟨by simp, by simp⟩, by simp [supSum], S⟩
  clear S F e1 e27 e28 e29 e3
  rintro ρ h J hJ ⟨e1, e48, e49, i, e50, hi, hsu, e3, S⟩
  (try simp (maxSteps := 1000000) (disch := first | omega | assumption | exact Nat.le_of_ble_eq_true rfl) only [go_sem, ↓mwp_block, simprocAttr, e49, e50])
  refine cond_dec (fun hlt => ?_) (fun hlt => ?_)
  · have hil : i < C.ss.length := by omega
    obtain ⟨b, off, hA, hr1⟩ := (r' S).ss.at hil
    have hsb := sup_bound hsu.1
    have hlen : (C.ss.take i).length ≤ 20 := by rw [List.length_take]; omega
    have hs1 := supSum_snoc hil
    have hno := fun h : okCfg C => sups_no hil h.2.2.2.2.1
    have hsn := sups_snoc hil hsu
    have hc2 := w.l2
    have hm2 := w.m2
    generalize C.ss[i] = x at *
    (try simp (maxSteps := 1000000) (disch := first | omega | assumption | exact Nat.le_of_ble_eq_true rfl) only [go_sem, ↓mwp_block, simprocAttr, e48, e50, hA, hr1])
    (refine st_alloc S ?_; clear S; intro q h S; (try simp only [splice_cons, splice_nil, List.set_cons_zero, List.set_cons_succ, Nat.zero_add, Nat.reduceAdd, List.cons_append, List.nil_append] at S); ((try clear F); have F := S.all; (try simp only [all_cons, all_nil, says_cell, and_true] at F)))
    (try simp (maxSteps := 1000000) (disch := first | omega | assumption | exact Nat.le_of_ble_eq_true rfl) only [go_sem, ↓mwp_block, simprocAttr, F, Sup.enc])
    (refine st_store (by first | exact S | exact S.p1 | exact S.p2 | exact S.p3 | exact S.p4 | exact S.p5 | exact S.p6 | exact S.p7 | exact S.p8 | exact S.p9 | exact S.p10 | exact S.p11) (by rfl) (by rfl) (Nat.le_of_ble_eq_true rfl) ?_; clear S; intro h S; (try simp only [splice_cons, splice_nil, List.set_cons_zero, List.set_cons_succ, Nat.zero_add, Nat.reduceAdd, List.cons_append, List.nil_append] at S); ((try clear F); have F := S.all; (try simp only [all_cons, all_nil, says_cell, and_true] at F)))
    (try simp (maxSteps := 1000000) (disch := first | omega | assumption | exact Nat.le_of_ble_eq_true rfl) only [go_sem, ↓mwp_block, simprocAttr, F])
    refine call_intro (some_ok _ _ _ _) ?_
    rintro _ _ ⟨rfl, rfl⟩
    by_cases c1 : okSome x.sku x.price x.count
    case neg =>
      rw [dcd_false c1]
      (try simp (maxSteps := 1000000) (disch := first | omega | assumption | exact Nat.le_of_ble_eq_true rfl) only [go_sem, ↓mwp_block, simprocAttr])
      exact hK _ _ ⟨by rw [dcd_false (fun h => c1 (hno h).1)], S.fr⟩
    rw [dcd_true c1]
    (try simp (maxSteps := 1000000) (disch := first | omega | assumption | exact Nat.le_of_ble_eq_true rfl) only [go_sem, ↓mwp_block, simprocAttr, e1, F, Cfg.enc])
    refine call_intro (ContainsS_ok (s := x) S (arrTake (r' S).ss i) (by rw [List.length_take]; omega) (by rw [List.length_take]; omega)) ?_
    rintro _ h ⟨rfl, hf⟩
    have S := S.frame hf
    ((try clear F); have F := S.all; (try simp only [all_cons, all_nil, says_cell, and_true] at F))
    by_cases c2 : ∃ y ∈ C.ss.take i, y.sku = x.sku
    · rw [dcd_true c2]
      (try simp (maxSteps := 1000000) (disch := first | omega | assumption | exact Nat.le_of_ble_eq_true rfl) only [go_sem, ↓mwp_block, simprocAttr])
      exact hK _ _ ⟨by rw [dcd_false (fun h => (hno h).2 c2)], S.fr⟩
    rw [dcd_false c2]
    have w1 : IntKind.i64.wrap (ordSum C.os + supSum (C.ss.take i) + x.count) = ordSum C.os + supSum (C.ss.take i) + x.count := by
      have := c1.2.2
      exact wrap_i64 (by omega) (by omega)
    (try simp (maxSteps := 1000000) (disch := first | omega | assumption | exact Nat.le_of_ble_eq_true rfl) only [go_sem, ↓mwp_block, simprocAttr, e3, F, w1, e50, Sup.enc])
    refine hJ _ _ ?_ ?_
    · (try simp (maxSteps := 1000000) (disch := first | omega | assumption | exact Nat.le_of_ble_eq_true rfl) only [go_sem, ↓mwp_block, simprocAttr, e1, e48, e49, hA])
      exact ⟨i + 1, rfl, by omega, hsn c1 c2, by rw [hs1, Int.add_assoc], S.tl⟩
    · (try simp (maxSteps := 1000000) (disch := first | omega | assumption | exact Nat.le_of_ble_eq_true rfl) only [go_sem, ↓mwp_block, simprocAttr, e50])
      omega
  obtain rfl : i = C.ss.length := by omega
  rw [List.take_length] at hsu e3
  (try simp (maxSteps := 1000000) (disch := first | omega | assumption | exact Nat.le_of_ble_eq_true rfl) only [go_sem, ↓mwp_block, simprocAttr, e3])
  exact hK _ _ ⟨congrArg Value.bool (congrArg dcd (propext ⟨fun h => ⟨d1, by omega, by omega, hok, hsu, h⟩, fun h => h.2.2.2.2.2⟩)), S.fr⟩
end Go.Proofs.Ytblalmgahfbalaa.MX

/- The library's Mul64, Len64, LeadingZeros64. -/
namespace Go.Proofs.Ytblalmgahfbalaa.MX
open Go Go.Proofs
set_option linter.unusedSimpArgs false
set_option linter.unusedVariables false
set_option maxHeartbeats 4000000
theorem wrapU {n : Nat} (h : n < 18446744073709551616) : IntKind.u64.wrap (n : Int) = n := by
  have : IntKind.u64.wrap (n : Int) = (n : Int) % 18446744073709551616 := rfl
  rw [this]
  omega
theorem mulE {a b c : Nat} (h : a * b = c) (hc : c < 18446744073709551616) : binV .mul (.int .u64 a) (.int .u64 b) = some (.int .u64 c) := by
  rw [bin_mul, ← Int.natCast_mul, h, wrapU hc]
theorem mulM {a b : Nat} : binV .mul (.int .u64 a) (.int .u64 b) = some (.int .u64 (a * b % 18446744073709551616 : Nat)) := by
  rw [bin_mul, ← Int.natCast_mul]
  rfl
theorem addE {a b c : Nat} (h : a + b = c) (hc : c < 18446744073709551616) : binV .add (.int .u64 a) (.int .u64 b) = some (.int .u64 c) := by
  rw [bin_add, ← Int.natCast_add, h, wrapU hc]
theorem subE {a b c : Nat} (h : a = c + b) (hc : c < 18446744073709551616) : binV .sub (.int .u64 a) (.int .u64 b) = some (.int .u64 c) := by
  rw [bin_sub, show (a : Int) - b = c by omega, wrapU hc]
theorem addM {a b : Nat} : binV .add (.int .u64 a) (.int .u64 b) = some (.int .u64 ((a + b) % 18446744073709551616 : Nat)) := by
  rw [bin_add, ← Int.natCast_add]
  rfl
theorem subM {a b c : Nat} (h : (a + (18446744073709551616 - b)) % 18446744073709551616 = c ∧ b ≤ 18446744073709551616) : binV .sub (.int .u64 a) (.int .u64 b) = some (.int .u64 c) := by
  rw [bin_sub]
  have : IntKind.u64.wrap ((a : Int) - b) = ((a : Int) - b) % 18446744073709551616 := rfl
  rw [this, show ((a : Int) - b) % 18446744073709551616 = (c : Nat) by omega]
theorem quoE {a b c : Nat} (h : a / b = c) (hb : b ≠ 0) (ha : a < 18446744073709551616) : binV .quo (.int .u64 a) (.int .u64 b) = some (.int .u64 c) := by
  have hc : c ≤ a := h ▸ Nat.div_le_self a b
  rw [bin_quo (by omega), Int.tdiv_eq_ediv_of_nonneg (by omega), ← Int.natCast_ediv, h, wrapU (by omega)]
theorem remE {a b c : Nat} (h : a % b = c) (hb : b ≠ 0) : binV .rem (.int .u64 a) (.int .u64 b) = some (.int .u64 c) := by
  rw [bin_rem (by omega), Int.tmod_eq_emod_of_nonneg (by omega), ← Int.natCast_emod, h]
theorem shrE {a k c : Nat} {k' : IntKind} (hk : k ≤ 64) (h : a / 2 ^ k = c) : binV .shr (.int .u64 a) (.int k' k) = some (.int .u64 c) := by
  rw [bin_shr (by omega), Int.toNat_natCast, show IntKind.u64.bits = 64 from rfl, Nat.min_eq_left hk, Int.fdiv_eq_ediv_of_nonneg _ (Int.le_of_lt (Int.pow_pos (by decide)))]
  rw [← h]
  simp
theorem shlE {a k c : Nat} {k' : IntKind} (hk : k ≤ 64) (h : a * 2 ^ k % 18446744073709551616 = c) : binV .shl (.int .u64 a) (.int k' k) = some (.int .u64 c) := by
  rw [bin_shl (by omega), Int.toNat_natCast, show IntKind.u64.bits = 64 from rfl, Nat.min_eq_left hk, ← h]
  have : (a : Int) * 2 ^ k = ((a * 2 ^ k : Nat) : Int) := by simp
  rw [this]
  rfl
theorem ofIntN {n : Nat} : BitVec.ofInt IntKind.u64.bits (n : Int) = BitVec.ofNat 64 n := BitVec.ofInt_natCast 64 n
theorem andE {a b c : Nat} (ha : a < 18446744073709551616) (hb : b < 18446744073709551616) (h : a &&& b = c) : binV .and (.int .u64 a) (.int .u64 b) = some (.int .u64 c) := by
  have hc : c ≤ a := h ▸ Nat.and_le_left
  rw [bin_and, ofIntN, ofIntN]
  have e : (BitVec.ofNat 64 a &&& BitVec.ofNat 64 b).toNat = c := by
    rw [BitVec.toNat_and, BitVec.toNat_ofNat, BitVec.toNat_ofNat, Nat.mod_eq_of_lt (by simpa using ha), Nat.mod_eq_of_lt (by simpa using hb), h]
  exact (congrArg (fun n : Nat => some (Value.int IntKind.u64 (IntKind.u64.wrap (n : Int)))) e).trans (by rw [wrapU (by omega)])
theorem orE {a b c : Nat} (ha : a < 18446744073709551616) (hb : b < 18446744073709551616) (h : a ||| b = c) : binV .or (.int .u64 a) (.int .u64 b) = some (.int .u64 c) := by
  have hc : c < 18446744073709551616 := h ▸ Nat.or_lt_two_pow (n := 64) ha hb
  rw [bin_or, ofIntN, ofIntN]
  have e : (BitVec.ofNat 64 a ||| BitVec.ofNat 64 b).toNat = c := by
    rw [BitVec.toNat_or, BitVec.toNat_ofNat, BitVec.toNat_ofNat, Nat.mod_eq_of_lt (by simpa using ha), Nat.mod_eq_of_lt (by simpa using hb), h]
  exact (congrArg (fun n : Nat => some (Value.int IntKind.u64 (IntKind.u64.wrap (n : Int)))) e).trans (by rw [wrapU (by omega)])
theorem and32L (a : Nat) (ha : a < 18446744073709551616) : binV .and (.int .u64 a) (.int .u64 4294967295) = some (.int .u64 ((a % 4294967296 : Nat) : Int)) :=
  andE (b := 4294967295) ha (by decide) (Nat.and_two_pow_sub_one_eq_mod a 32)
theorem shr32L (a : Nat) : binV .shr (.int .u64 a) (.int .u64 32) = some (.int .u64 ((a / 4294967296 : Nat) : Int)) := shrE (k := 32) (by omega) rfl
theorem mul_lt {a b c d : Nat} (h1 : a ≤ c) (h2 : b ≤ d) : a * b ≤ c * d := Nat.mul_le_mul h1 h2
theorem mul_split (x y : Nat) : x * y = (x / 4294967296) * (y / 4294967296) * 18446744073709551616 + ((x / 4294967296) * (y % 4294967296) + (x % 4294967296) * (y / 4294967296)) * 4294967296 + (x % 4294967296) * (y % 4294967296) := by
  have hx : x = (x / 4294967296) * 4294967296 + x % 4294967296 := by omega
  have hy : y = (y / 4294967296) * 4294967296 + y % 4294967296 := by omega
  conv => lhs; rw [hx, hy]
  generalize x / 4294967296 = a
  generalize x % 4294967296 = b
  generalize y / 4294967296 = c
  generalize y % 4294967296 = d
  rw [Nat.add_mul, Nat.mul_add, Nat.mul_add, Nat.mul_mul_mul_comm, Nat.mul_right_comm a 4294967296 d, ← Nat.mul_assoc b c]
  omega
theorem Mul64_ok (x y : Nat) (hx : x < 18446744073709551616) (hy : y < 18446744073709551616) (h : Heap) : CallsH Try.prog 75 [.int .u64 x, .int .u64 y] h fun v h' => v = .tuple #[.int .u64 (x * y / 18446744073709551616 : Nat), .int .u64 (x * y % 18446744073709551616 : Nat)] ∧ h' = h := by
  have hs := mul_split x y
  have a1 := and32L x hx
  have a2 := and32L y hy
  have s1 := shr32L x
  have s2 := shr32L y
  have b1 : x / 4294967296 ≤ 4294967295 := by omega
  have b2 : y / 4294967296 ≤ 4294967295 := by omega
  have b3 : x % 4294967296 ≤ 4294967295 := by omega
  have b4 : y % 4294967296 ≤ 4294967295 := by omega
  have hlo := mulM (a := x) (b := y)
  generalize x / 4294967296 = x1 at *
  generalize y / 4294967296 = y1 at *
  generalize x % 4294967296 = x0 at *
  generalize y % 4294967296 = y0 at *
  have c11 := mul_lt b1 b2
  have c10 := mul_lt b1 b4
  have c01 := mul_lt b3 b2
  have c00 := mul_lt b3 b4
  generalize h00 : x0 * y0 = p00 at *
  generalize h10 : x1 * y0 = p10 at *
  generalize h01 : x0 * y1 = p01 at *
  generalize h11 : x1 * y1 = p11 at *
  have m00 := mulE h00 (by omega)
  have m10 := mulE h10 (by omega)
  have m01 := mulE h01 (by omega)
  have m11 := mulE h11 (by omega)
  have s3 := shr32L p00
  have d1 := addE (a := p10) (b := p00 / 4294967296) rfl (by omega)
  have a3 := and32L (p10 + p00 / 4294967296) (by omega)
  have s4 := shr32L (p10 + p00 / 4294967296)
  have d2 := addE (a := (p10 + p00 / 4294967296) % 4294967296) (b := p01) rfl (by omega)
  have d3 := addE (a := p11) (b := (p10 + p00 / 4294967296) / 4294967296) rfl (by omega)
  have s5 := shr32L ((p10 + p00 / 4294967296) % 4294967296 + p01)
  have d4 := addE (a := p11 + (p10 + p00 / 4294967296) / 4294967296) (b := ((p10 + p00 / 4294967296) % 4294967296 + p01) / 4294967296) rfl (by omega)
  have hhi : p11 + (p10 + p00 / 4294967296) / 4294967296 + ((p10 + p00 / 4294967296) % 4294967296 + p01) / 4294967296 = x * y / 18446744073709551616 := by omega
  rw [hhi] at d4
  refine enterK c_math_bits_Mul64 (Nat.le_of_ble_eq_true rfl) fun K hK => ?_
  (try simp (maxSteps := 1000000) (disch := first | omega | assumption | exact Nat.le_of_ble_eq_true rfl) only [go_sem, ↓mwp_block, simprocAttr, ir_math_bits_Mul64, a1, a2, s1, s2, m00, m10, m01, m11, s3, d1, a3, s4, d2, d3, s5, d4, hlo])
  exact hK _ _ ⟨rfl, rfl⟩
/-- How many bits a number has. -/
def bitLen (n : Nat) : Nat := if n = 0 then 0 else n.log2 + 1
theorem bitLen_shr (n k : Nat) (h : 2 ^ k ≤ n) : bitLen n = k + bitLen (n / 2 ^ k) := by
  have hp : 0 < 2 ^ k := Nat.pow_pos (by decide)
  have h1 : n / 2 ^ k ≠ 0 := by
    have := Nat.div_pos h hp
    omega
  have h0 : n ≠ 0 := by omega
  unfold bitLen
  rw [if_neg h0, if_neg h1]
  have : n.log2 = k + (n / 2 ^ k).log2 := by
    rw [Nat.log2_eq_iff h0]
    have h2 := (Nat.log2_eq_iff h1).1 rfl
    constructor
    · rw [Nat.pow_add, Nat.mul_comm]
      exact (Nat.le_div_iff_mul_le hp).1 h2.1
    · rw [show k + (n / 2 ^ k).log2 + 1 = ((n / 2 ^ k).log2 + 1) + k by omega, Nat.pow_add]
      exact (Nat.div_lt_iff_lt_mul hp).1 h2.2
  omega
theorem bitLen_spec {n : Nat} (h : n ≠ 0) : 2 ^ (bitLen n - 1) ≤ n ∧ n < 2 ^ bitLen n ∧ 0 < bitLen n := by
  unfold bitLen
  rw [if_neg h]
  have := (Nat.log2_eq_iff h).1 rfl
  exact ⟨by simpa using this.1, this.2, by omega⟩
def tabOk (T : Value) : Bool := (List.range 256).all fun n => match idxTV T (.int .u8 n) with
  | some (.int .u8 k) => k == (bitLen n : Int)
  | _ => false
theorem tab_at {T : Value} (h : tabOk T = true) {n : Nat} (hn : n < 256) : idxTV T (.int .u8 n) = some (.int .u8 (bitLen n : Nat)) := by
  have := List.all_eq_true.1 h n (List.mem_range.2 hn)
  split at this
  · rename_i k e
    rw [e, eq_of_beq this]
  · cases this
theorem condE {p : Prop} {X Y : Prop} {s : Tag X} {t : Tag Y} (hp : p) (hx : X) : condT (.bool (dcd p)) X Y s t := cond_dec (fun _ => hx) (fun h => absurd hp h)
theorem condN {p : Prop} {X Y : Prop} {s : Tag X} {t : Tag Y} (hp : ¬ p) (hy : Y) : condT (.bool (dcd p)) X Y s t := cond_dec (fun h => absurd h hp) (fun _ => hy)
theorem bind_tab {T : Value} {n : Nat} {K : Value → Prop} {t : Tag K} (h : tabOk T = true) (hn : n < 256) (hk : K (.int .u8 (bitLen n : Nat))) : bindT (idxTV T (.int .u8 n)) K t := by
  rw [tab_at h hn]
  exact hk
theorem wrapB {n : Nat} (h : n < 256) : IntKind.u8.wrap (n : Int) = n := by
  have : IntKind.u8.wrap (n : Int) = (n : Int) % 256 := rfl
  rw [this]
  omega
theorem bitLen_8 {n : Nat} (h : n < 256) : bitLen n ≤ 8 := by
  by_cases h0 : n = 0
  · subst h0; decide
  · have := (bitLen_spec h0).1
    have h2 := (bitLen_spec h0).2.2
    apply Nat.le_of_not_lt
    intro h3
    have : 2 ^ 8 ≤ 2 ^ (bitLen n - 1) := Nat.pow_le_pow_right (by decide) (by omega)
    omega
theorem Len64_fin {b m a : Nat} (h : a = m + b) (hb : b ≤ 8) (hm : m ≤ 56) : IntKind.i64.wrap ((m : Int) + IntKind.i64.wrap (b : Int)) = a := by
  rw [wrap_i64 (x := (b : Int)) (by omega) (by omega), wrap_i64 (by omega) (by omega)]
  omega
set_option maxRecDepth 1000000 in
theorem Len64_ok (x : Nat) (hx : x < 18446744073709551616) (h : Heap) : CallsH Try.prog 90 [.int .u64 x] h fun v h' => v = .int .i64 (bitLen x : Nat) ∧ h' = h := by
  have s32 := fun n => shr32L n
  have s16 : ∀ n : Nat, binV .shr (.int .u64 n) (.int .u64 16) = some (.int .u64 ((n / 65536 : Nat) : Int)) := fun n => shrE (k := 16) (by omega) rfl
  have s8 : ∀ n : Nat, binV .shr (.int .u64 n) (.int .u64 8) = some (.int .u64 ((n / 256 : Nat) : Int)) := fun n => shrE (k := 8) (by omega) rfl
  have w16 : IntKind.i64.wrap ((0 : Int) + 16) = 16 := by decide
  have w8 : IntKind.i64.wrap ((0 : Int) + 8) = 8 := by decide
  have w48 : IntKind.i64.wrap ((32 : Int) + 16) = 48 := by decide
  have w40 : IntKind.i64.wrap ((32 : Int) + 8) = 40 := by decide
  have w56 : IntKind.i64.wrap ((48 : Int) + 8) = 56 := by decide
  have w24 : IntKind.i64.wrap ((16 : Int) + 8) = 24 := by decide
  refine enterK c_math_bits_Len64 (Nat.le_of_ble_eq_true rfl) fun K hK => ?_
  by_cases c0 : (4294967296 : Int) ≤ (x : Nat)
  · (try simp (maxSteps := 1000000) (disch := first | omega | assumption | exact Nat.le_of_ble_eq_true rfl) only [go_sem, ↓mwp_block, simprocAttr, ir_math_bits_Len64, c0, s32, s16, s8, w16, w8, w48, w40, w56, w24])
    by_cases c1 : (65536 : Int) ≤ ((x) / 4294967296 : Nat)
    · (try simp (maxSteps := 1000000) (disch := first | omega | assumption | exact Nat.le_of_ble_eq_true rfl) only [go_sem, ↓mwp_block, simprocAttr, c1, s32, s16, s8, w16, w8, w48, w40, w56, w24])
      by_cases c2 : (256 : Int) ≤ (((x) / 4294967296) / 65536 : Nat)
      · (try simp (maxSteps := 1000000) (disch := first | omega | assumption | exact Nat.le_of_ble_eq_true rfl) only [go_sem, ↓mwp_block, simprocAttr, c2, s32, s16, s8, w16, w8, w48, w40, w56, w24])
        have hw := wrapB (n := (((x) / 4294967296) / 65536) / 256) (by omega)
        (try simp (maxSteps := 1000000) (disch := first | omega | assumption | exact Nat.le_of_ble_eq_true rfl) only [go_sem, ↓mwp_block, simprocAttr, hw])
        refine bind_tab (by kernel_rfl) (by omega) ?_
        (try simp (maxSteps := 1000000) (disch := first | omega | assumption | exact Nat.le_of_ble_eq_true rfl) only [go_sem, ↓mwp_block, simprocAttr])
        refine hK _ _ ⟨congrArg (Value.int .i64) (Len64_fin (m := 56) ?_ (bitLen_8 (by omega)) (by omega)), rfl⟩
        have q32 := bitLen_shr (x) 32 (by omega)
        rw [show (2 : Nat) ^ 32 = 4294967296 from rfl] at q32
        have q16 := bitLen_shr ((x) / 4294967296) 16 (by omega)
        rw [show (2 : Nat) ^ 16 = 65536 from rfl] at q16
        have q8 := bitLen_shr (((x) / 4294967296) / 65536) 8 (by omega)
        rw [show (2 : Nat) ^ 8 = 256 from rfl] at q8
        omega
      · (try simp (maxSteps := 1000000) (disch := first | omega | assumption | exact Nat.le_of_ble_eq_true rfl) only [go_sem, ↓mwp_block, simprocAttr, c2, s32, s16, s8, w16, w8, w48, w40, w56, w24])
        have hw := wrapB (n := ((x) / 4294967296) / 65536) (by omega)
        (try simp (maxSteps := 1000000) (disch := first | omega | assumption | exact Nat.le_of_ble_eq_true rfl) only [go_sem, ↓mwp_block, simprocAttr, hw])
        refine bind_tab (by kernel_rfl) (by omega) ?_
        (try simp (maxSteps := 1000000) (disch := first | omega | assumption | exact Nat.le_of_ble_eq_true rfl) only [go_sem, ↓mwp_block, simprocAttr])
        refine hK _ _ ⟨congrArg (Value.int .i64) (Len64_fin (m := 48) ?_ (bitLen_8 (by omega)) (by omega)), rfl⟩
        have q32 := bitLen_shr (x) 32 (by omega)
        rw [show (2 : Nat) ^ 32 = 4294967296 from rfl] at q32
        have q16 := bitLen_shr ((x) / 4294967296) 16 (by omega)
        rw [show (2 : Nat) ^ 16 = 65536 from rfl] at q16
        omega
    · (try simp (maxSteps := 1000000) (disch := first | omega | assumption | exact Nat.le_of_ble_eq_true rfl) only [go_sem, ↓mwp_block, simprocAttr, c1, s32, s16, s8, w16, w8, w48, w40, w56, w24])
      by_cases c2 : (256 : Int) ≤ ((x) / 4294967296 : Nat)
      · (try simp (maxSteps := 1000000) (disch := first | omega | assumption | exact Nat.le_of_ble_eq_true rfl) only [go_sem, ↓mwp_block, simprocAttr, c2, s32, s16, s8, w16, w8, w48, w40, w56, w24])
        have hw := wrapB (n := ((x) / 4294967296) / 256) (by omega)
        (try simp (maxSteps := 1000000) (disch := first | omega | assumption | exact Nat.le_of_ble_eq_true rfl) only [go_sem, ↓mwp_block, simprocAttr, hw])
        refine bind_tab (by kernel_rfl) (by omega) ?_
        (try simp (maxSteps := 1000000) (disch := first | omega | assumption | exact Nat.le_of_ble_eq_true rfl) only [go_sem, ↓mwp_block, simprocAttr])
        refine hK _ _ ⟨congrArg (Value.int .i64) (Len64_fin (m := 40) ?_ (bitLen_8 (by omega)) (by omega)), rfl⟩
        have q32 := bitLen_shr (x) 32 (by omega)
        rw [show (2 : Nat) ^ 32 = 4294967296 from rfl] at q32
        have q8 := bitLen_shr ((x) / 4294967296) 8 (by omega)
        rw [show (2 : Nat) ^ 8 = 256 from rfl] at q8
        omega
      · (try simp (maxSteps := 1000000) (disch := first | omega | assumption | exact Nat.le_of_ble_eq_true rfl) only [go_sem, ↓mwp_block, simprocAttr, c2, s32, s16, s8, w16, w8, w48, w40, w56, w24])
        have hw := wrapB (n := (x) / 4294967296) (by omega)
        (try simp (maxSteps := 1000000) (disch := first | omega | assumption | exact Nat.le_of_ble_eq_true rfl) only [go_sem, ↓mwp_block, simprocAttr, hw])
        refine bind_tab (by kernel_rfl) (by omega) ?_
        (try simp (maxSteps := 1000000) (disch := first | omega | assumption | exact Nat.le_of_ble_eq_true rfl) only [go_sem, ↓mwp_block, simprocAttr])
        refine hK _ _ ⟨congrArg (Value.int .i64) (Len64_fin (m := 32) ?_ (bitLen_8 (by omega)) (by omega)), rfl⟩
        have q32 := bitLen_shr (x) 32 (by omega)
        rw [show (2 : Nat) ^ 32 = 4294967296 from rfl] at q32
        omega
  · (try simp (maxSteps := 1000000) (disch := first | omega | assumption | exact Nat.le_of_ble_eq_true rfl) only [go_sem, ↓mwp_block, simprocAttr, ir_math_bits_Len64, c0, s32, s16, s8, w16, w8, w48, w40, w56, w24])
    by_cases c1 : (65536 : Int) ≤ (x : Nat)
    · (try simp (maxSteps := 1000000) (disch := first | omega | assumption | exact Nat.le_of_ble_eq_true rfl) only [go_sem, ↓mwp_block, simprocAttr, c1, s32, s16, s8, w16, w8, w48, w40, w56, w24])
      by_cases c2 : (256 : Int) ≤ ((x) / 65536 : Nat)
      · (try simp (maxSteps := 1000000) (disch := first | omega | assumption | exact Nat.le_of_ble_eq_true rfl) only [go_sem, ↓mwp_block, simprocAttr, c2, s32, s16, s8, w16, w8, w48, w40, w56, w24])
        have hw := wrapB (n := ((x) / 65536) / 256) (by omega)
        (try simp (maxSteps := 1000000) (disch := first | omega | assumption | exact Nat.le_of_ble_eq_true rfl) only [go_sem, ↓mwp_block, simprocAttr, hw])
        refine bind_tab (by kernel_rfl) (by omega) ?_
        (try simp (maxSteps := 1000000) (disch := first | omega | assumption | exact Nat.le_of_ble_eq_true rfl) only [go_sem, ↓mwp_block, simprocAttr])
        refine hK _ _ ⟨congrArg (Value.int .i64) (Len64_fin (m := 24) ?_ (bitLen_8 (by omega)) (by omega)), rfl⟩
        have q16 := bitLen_shr (x) 16 (by omega)
        rw [show (2 : Nat) ^ 16 = 65536 from rfl] at q16
        have q8 := bitLen_shr ((x) / 65536) 8 (by omega)
        rw [show (2 : Nat) ^ 8 = 256 from rfl] at q8
        omega
      · (try simp (maxSteps := 1000000) (disch := first | omega | assumption | exact Nat.le_of_ble_eq_true rfl) only [go_sem, ↓mwp_block, simprocAttr, c2, s32, s16, s8, w16, w8, w48, w40, w56, w24])
        have hw := wrapB (n := (x) / 65536) (by omega)
        (try simp (maxSteps := 1000000) (disch := first | omega | assumption | exact Nat.le_of_ble_eq_true rfl) only [go_sem, ↓mwp_block, simprocAttr, hw])
        refine bind_tab (by kernel_rfl) (by omega) ?_
        (try simp (maxSteps := 1000000) (disch := first | omega | assumption | exact Nat.le_of_ble_eq_true rfl) only [go_sem, ↓mwp_block, simprocAttr])
        refine hK _ _ ⟨congrArg (Value.int .i64) (Len64_fin (m := 16) ?_ (bitLen_8 (by omega)) (by omega)), rfl⟩
        have q16 := bitLen_shr (x) 16 (by omega)
        rw [show (2 : Nat) ^ 16 = 65536 from rfl] at q16
        omega
    · (try simp (maxSteps := 1000000) (disch := first | omega | assumption | exact Nat.le_of_ble_eq_true rfl) only [go_sem, ↓mwp_block, simprocAttr, c1, s32, s16, s8, w16, w8, w48, w40, w56, w24])
      by_cases c2 : (256 : Int) ≤ (x : Nat)
      · (try simp (maxSteps := 1000000) (disch := first | omega | assumption | exact Nat.le_of_ble_eq_true rfl) only [go_sem, ↓mwp_block, simprocAttr, c2, s32, s16, s8, w16, w8, w48, w40, w56, w24])
        have hw := wrapB (n := (x) / 256) (by omega)
        (try simp (maxSteps := 1000000) (disch := first | omega | assumption | exact Nat.le_of_ble_eq_true rfl) only [go_sem, ↓mwp_block, simprocAttr, hw])
        refine bind_tab (by kernel_rfl) (by omega) ?_
        (try simp (maxSteps := 1000000) (disch := first | omega | assumption | exact Nat.le_of_ble_eq_true rfl) only [go_sem, ↓mwp_block, simprocAttr])
        refine hK _ _ ⟨congrArg (Value.int .i64) (Len64_fin (m := 8) ?_ (bitLen_8 (by omega)) (by omega)), rfl⟩
        have q8 := bitLen_shr (x) 8 (by omega)
        rw [show (2 : Nat) ^ 8 = 256 from rfl] at q8
        omega
      · (try simp (maxSteps := 1000000) (disch := first | omega | assumption | exact Nat.le_of_ble_eq_true rfl) only [go_sem, ↓mwp_block, simprocAttr, c2, s32, s16, s8, w16, w8, w48, w40, w56, w24])
        have hw := wrapB (n := x) (by omega)
        (try simp (maxSteps := 1000000) (disch := first | omega | assumption | exact Nat.le_of_ble_eq_true rfl) only [go_sem, ↓mwp_block, simprocAttr, hw])
        refine bind_tab (by kernel_rfl) (by omega) ?_
        (try simp (maxSteps := 1000000) (disch := first | omega | assumption | exact Nat.le_of_ble_eq_true rfl) only [go_sem, ↓mwp_block, simprocAttr])
        refine hK _ _ ⟨congrArg (Value.int .i64) (Len64_fin (m := 0) ?_ (bitLen_8 (by omega)) (by omega)), rfl⟩
        omega
end Go.Proofs.Ytblalmgahfbalaa.MX
