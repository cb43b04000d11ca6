/- Texts in one file: Od3, Tb5. -/
import Derived.Test.YtblalmgahfbalaaGreatK19

/- Orders: which configs are right. -/
namespace Go.Proofs.YtblalmgahfbalaaGreat.MX
open Go Go.Proofs
set_option linter.unusedSimpArgs false
set_option linter.unusedVariables false
set_option maxHeartbeats 8000000
theorem arrTake {α : Type} {enc : α → List Value} {sz : Nat} {h : Heap} {A : Option Addr} {xs : List α} (ha : Arr enc sz h A xs) (k : Nat) : Arr enc sz h A (xs.take k) := by
  intro i hi
  rw [List.length_take] at hi
  obtain ⟨b, off, e, hr⟩ := ha i (by omega)
  exact ⟨b, off, e, by rw [List.getElem_take]; exact hr⟩
def ordSum (os : List Odr) : Int := (os.map fun o => cntOf o.ls).sum
def supSum (ss : List Sup) : Int := (ss.map Sup.count).sum
theorem ordSum_snoc {os : List Odr} {i : Nat} (hi : i < os.length) : ordSum (os.take (i + 1)) = ordSum (os.take i) + cntOf os[i].ls := by
  rw [List.take_succ_eq_append_getElem hi, ordSum, List.map_append, List.sum_append]
  simp [ordSum]
theorem supSum_snoc {ss : List Sup} {i : Nat} (hi : i < ss.length) : supSum (ss.take (i + 1)) = supSum (ss.take i) + ss[i].count := by
  rw [List.take_succ_eq_append_getElem hi, supSum, List.map_append, List.sum_append]
  simp [supSum]
theorem ord_bound {k : Int} : ∀ {os : List Odr}, (∀ o ∈ os, okOrder k o) → 0 ≤ ordSum os ∧ ordSum os ≤ 400 * os.length
  | [], _ => by simp [ordSum]
  | x :: os, h => by
    obtain ⟨⟨_, hx, _⟩, h1, _⟩ := h x (by simp)
    have h1 := all_bound h1
    have h2 := ord_bound (os := os) fun y hy => h y (by simp [hy])
    unfold ordSum at h2 ⊢
    simp only [List.map_cons, List.sum_cons, List.length_cons]
    omega
theorem sup_bound : ∀ {ss : List Sup}, (∀ s ∈ ss, okSup s) → 0 ≤ supSum ss ∧ supSum ss ≤ 50 * ss.length
  | [], _ => by simp [supSum]
  | x :: ss, h => by
    obtain ⟨_, _, h1⟩ := h x (by simp)
    have h2 := sup_bound (ss := ss) fun y hy => h y (by simp [hy])
    unfold supSum at h2 ⊢
    simp only [List.map_cons, List.sum_cons, List.length_cons]
    omega
theorem sups_snoc {ss : List Sup} {i : Nat} (hi : i < ss.length) (h : okSups (ss.take i)) (hs : okSup ss[i]) (hn : ¬ ∃ x ∈ ss.take i, x.sku = ss[i].sku) : okSups (ss.take (i + 1)) := by
  rw [List.take_succ_eq_append_getElem hi]
  refine ⟨fun x hx => ?_, ?_⟩
  · rcases List.mem_append.1 hx with hx | hx
    · exact h.1 x hx
    · rw [List.mem_singleton] at hx; rw [hx]; exact hs
  · rw [List.pairwise_append]
    refine ⟨h.2, by simp, fun a ha b hb => ?_⟩
    rw [List.mem_singleton] at hb
    rw [hb]
    exact fun e => hn ⟨a, ha, e⟩
theorem sups_no {ss : List Sup} {i : Nat} (hi : i < ss.length) (h : okSups ss) : okSup ss[i] ∧ ¬ ∃ x ∈ ss.take i, x.sku = ss[i].sku := by
  refine ⟨h.1 _ (List.getElem_mem hi), ?_⟩
  rintro ⟨x, hx, e⟩
  have hp := h.2
  rw [show ss = ss.take i ++ ss.drop i from (List.take_append_drop i ss).symm, List.pairwise_append] at hp
  exact hp.2.2 x hx ss[i] (by rw [List.drop_eq_getElem_cons hi]; exact List.mem_cons_self ..) e
section
variable {h0 h : Heap} {l : List HP}
theorem supAsk {p : Nat} {s : Sup} (S : St h0 h (cellA p s.enc 71 :: l)) : Asks Tryz.prog Sup.enc h [] (.func (.func 67) #[] (List.toArray [.pointer (some ⟨p, 0, none⟩)])) fun m => dcd (m.sku = s.sku) := by
  refine ⟨_, _, rfl, ok_order_Right_1, fun x h' hf => ?_⟩
  have S := S.frame hf
  have S2 : St h' h' [] := St.nil h'
  have hr : ∀ h'', Fr h' h'' [] → rd1 h'' (.pointer (some ⟨p, 0, none⟩)) = some (.int .i64 s.sku) := fun h'' hf => st_rd1 (S.frame hf)
  (refine enterK c_order_Right_1 (Nat.le_of_ble_eq_true rfl) fun K hK => ?_; (try simp (maxSteps := 1000000) (disch := first | omega | assumption | exact Nat.le_of_ble_eq_true rfl) only [go_sem, ↓mwp_block, simprocAttr, ir_order_Right_1]))
  refine st_alloc S2 ?_
  clear S2
  intro b h'' S2
  ((try clear F); have F := S.all; (try simp only [all_cons, all_nil, says_cell, and_true] at F))
  clear F
  have F := S2.all
  simp only [all_cons, all_nil, says_cell, and_true] at F
  (try simp (maxSteps := 1000000) (disch := first | omega | assumption | exact Nat.le_of_ble_eq_true rfl) only [go_sem, ↓mwp_block, simprocAttr, F, Sup.enc, hr _ S2.fr])
  exact hK _ _ ⟨rfl, S2.fr⟩
theorem ContainsS_ok {p n c : Nat} {s : Sup} {A : Option Addr} {xs : List Sup} (S : St h0 h (cellA p s.enc 71 :: l)) (ha : Arr Sup.enc 3 h A xs) (hn : n = xs.length) (hl : xs.length < 1000000) :
    CallsH Tryz.prog 66 [.slice A n c, .func (.func 67) #[] (List.toArray [.pointer (some ⟨p, 0, none⟩)])] h fun v h' => v = .bool (dcd (∃ x ∈ xs, x.sku = s.sku)) ∧ Fr h h' [] := by
  subst hn
  (refine enterK c_slices_ContainsFunc_api_Supply_api_Supply (Nat.le_of_ble_eq_true rfl) fun K hK => ?_; (try simp (maxSteps := 1000000) (disch := first | omega | assumption | exact Nat.le_of_ble_eq_true rfl) only [go_sem, ↓mwp_block, simprocAttr, ir_slices_ContainsFunc_api_Supply_api_Supply]))
  refine call_intro (indexFunc_ok (sz := 3) (p := fun m : Sup => dcd (m.sku = s.sku)) c_slices_IndexFunc_api_Supply_api_Supply ha rfl (by omega) (supAsk S)) ?_
  rintro _ h1 ⟨rfl, hf⟩
  rcases idxOf_spec (fun m : Sup => dcd (m.sku = s.sku)) xs 0 with ⟨hx, hall⟩ | ⟨i, hx, hil, hbef, hat⟩
  · have hx : idxOf (fun m : Sup => dcd (m.sku = s.sku)) xs 0 = -1 := hx
    (try simp (maxSteps := 1000000) (disch := first | omega | assumption | exact Nat.le_of_ble_eq_true rfl) only [go_sem, ↓mwp_block, simprocAttr, hx])
    refine hK _ _ ⟨?_, hf⟩
    rw [dcd_false]
    rintro ⟨p, hp, hn⟩
    have := hall p hp
    rw [dcd_true hn] at this
    cases this
  · have hx : idxOf (fun m : Sup => dcd (m.sku = s.sku)) xs 0 = (i : Int) := by simpa using hx
    (try simp (maxSteps := 1000000) (disch := first | omega | assumption | exact Nat.le_of_ble_eq_true rfl) only [go_sem, ↓mwp_block, simprocAttr, hx])
    refine hK _ _ ⟨?_, hf⟩
    have := hat xs[i] (List.getElem?_eq_getElem hil)
    rw [dcd_true]
    exact ⟨xs[i], List.getElem_mem hil, of_dcd_true this⟩
end
theorem ORight_ok {h0 : Heap} (C : Cfg) (r : C.rd h0) (w : C.wf) (l1 : C.os.length < 1000000) (l2 : C.ss.length < 1000000) (l3 : C.ps.length < 1000000) (l4 : ∀ o ∈ C.os, o.ls.length < 1000000) :
    CallsH Tryz.prog 44 [.agg C.enc.toArray] h0 fun v h' => v = .bool (dcd (okCfg C)) ∧ Fr h0 h' [] := by
  have S := St.nil h0
  have r' : ∀ {h' : Heap} {l : List HP}, St h0 h' l → C.rd h' := fun S => r.fr S.fr
  (refine enterK c_order_Right (Nat.le_of_ble_eq_true rfl) fun K hK => ?_; (try simp (maxSteps := 1000000) (disch := first | omega | assumption | exact Nat.le_of_ble_eq_true rfl) only [go_sem, ↓mwp_block, simprocAttr, ir_order_Right]))
  (refine st_alloc S ?_; clear S; intro g h S; (try simp only [splice_cons, splice_nil, List.set_cons_zero, List.set_cons_succ, Nat.zero_add, Nat.reduceAdd, List.cons_append, List.nil_append] at S); ((try clear F); have F := S.all; (try simp only [all_cons, all_nil, says_cell, and_true] at F)))
  (try simp (maxSteps := 1000000) (disch := first | omega | assumption | exact Nat.le_of_ble_eq_true rfl) only [go_sem, ↓mwp_block, simprocAttr, F, Cfg.enc])
  refine call_intro (Right_ok (r' S).ps rfl l3) ?_
  rintro _ h ⟨rfl, hf⟩
  have S := S.frame hf
  by_cases d1 : RightT C.ps
  case neg =>
    rw [dcd_false d1]
    (try simp (maxSteps := 1000000) (disch := first | omega | assumption | exact Nat.le_of_ble_eq_true rfl) only [go_sem, ↓mwp_block, simprocAttr])
    exact hK _ _ ⟨by rw [dcd_false (fun h => d1 h.1)], S.fr⟩
  rw [dcd_true d1]
  ((try clear F); have F := S.all; (try simp only [all_cons, all_nil, says_cell, and_true] at F))
  by_cases d2 : 20 < (C.os.length : Int)
  · (try simp (maxSteps := 1000000) (disch := first | omega | assumption | exact Nat.le_of_ble_eq_true rfl) only [go_sem, ↓mwp_block, simprocAttr, F, Cfg.enc, d2])
    exact hK _ _ ⟨by rw [dcd_false (fun h => by have := h.2.1; omega)], S.fr⟩
  by_cases d3 : 20 < (C.ss.length : Int)
  · (try simp (maxSteps := 1000000) (disch := first | omega | assumption | exact Nat.le_of_ble_eq_true rfl) only [go_sem, ↓mwp_block, simprocAttr, F, Cfg.enc, d2, d3])
    exact hK _ _ ⟨by rw [dcd_false (fun h => by have := h.2.2.1; omega)], S.fr⟩
  (try simp (maxSteps := 1000000) (disch := first | omega | assumption | exact Nat.le_of_ble_eq_true rfl) only [go_sem, ↓mwp_block, simprocAttr, F, Cfg.enc, d2, d3])
  refine loop_intro (fun ρ h' => ρ 1 = .pointer (some ⟨g, 0, none⟩) ∧ ρ 27 = .slice C.A1 C.os.length C.c1 ∧ ρ 28 = .int .i64 C.os.length ∧ ∃ i : Nat, ρ 29 = .int .i64 i ∧ i ≤ C.os.length ∧ (∀ o ∈ C.os.take i, okOrder C.ps.length o) ∧ ρ 3 = .int .i64 (ordSum (C.os.take i)) ∧
    St h0 h' [cellA g C.enc 26]) (fun ρ _ => C.os.length - (iv (ρ 29)).toNat) ?_ ?_
  · (try simp (maxSteps := 1000000) (disch := first | omega | assumption | exact Nat.le_of_ble_eq_true rfl) only [go_sem, ↓mwp_block, simprocAttr])
    exact ⟨0, rfl, by omega, by simp, rfl, S⟩
  clear S F
  rintro ρ h J hJ ⟨e1, e27, e28, i, e29, hi, hok, e3, S⟩
  (try simp (maxSteps := 1000000) (disch := first | omega | assumption | exact Nat.le_of_ble_eq_true rfl) only [go_sem, ↓mwp_block, simprocAttr, e28, e29])
  refine cond_dec (fun hlt => ?_) (fun hlt => ?_)
  · have hil : i < C.os.length := by omega
    obtain ⟨b, off, hA, hr1⟩ := (r' S).os.at hil
    have hmem := List.getElem_mem hil
    have hlb := ord_bound hok
    have hlen : (C.os.take i).length ≤ 20 := by rw [List.length_take]; omega
    have hs1 := ordSum_snoc hil
    have hll := l4 _ hmem
    have hrl := fun {h'} {l'} (S : St h0 h' l') => (r' S).ls _ hmem
    have hbad : ¬ okOrder C.ps.length C.os[i] → ¬ okCfg C := fun hn h => hn (h.2.2.2.1 _ hmem)
    have htk : okOrder C.ps.length C.os[i] → ∀ o ∈ C.os.take (i + 1), okOrder C.ps.length o := fun hx o ho => by
      rw [List.take_succ_eq_append_getElem hil] at ho
      rcases List.mem_append.1 ho with ho | ho
      · exact hok o ho
      · rw [List.mem_singleton] at ho; rw [ho]; exact hx
    generalize C.os[i] = x at *
    (try simp (maxSteps := 1000000) (disch := first | omega | assumption | exact Nat.le_of_ble_eq_true rfl) only [go_sem, ↓mwp_block, simprocAttr, e27, e29, hA, hr1])
    (refine st_alloc S ?_; clear S; intro q h S; (try simp only [splice_cons, splice_nil, List.set_cons_zero, List.set_cons_succ, Nat.zero_add, Nat.reduceAdd, List.cons_append, List.nil_append] at S); ((try clear F); have F := S.all; (try simp only [all_cons, all_nil, says_cell, and_true] at F)))
    (try simp (maxSteps := 1000000) (disch := first | omega | assumption | exact Nat.le_of_ble_eq_true rfl) only [go_sem, ↓mwp_block, simprocAttr, F, Odr.enc])
    (refine st_store (by first | exact S | exact S.p1 | exact S.p2 | exact S.p3 | exact S.p4 | exact S.p5 | exact S.p6 | exact S.p7 | exact S.p8 | exact S.p9 | exact S.p10 | exact S.p11) (by rfl) (by rfl) (Nat.le_of_ble_eq_true rfl) ?_; clear S; intro h S; (try simp only [splice_cons, splice_nil, List.set_cons_zero, List.set_cons_succ, Nat.zero_add, Nat.reduceAdd, List.cons_append, List.nil_append] at S); ((try clear F); have F := S.all; (try simp only [all_cons, all_nil, says_cell, and_true] at F)))
    (try simp (maxSteps := 1000000) (disch := first | omega | assumption | exact Nat.le_of_ble_eq_true rfl) only [go_sem, ↓mwp_block, simprocAttr, F, e1, Cfg.enc])
    refine call_intro (rightOrder_ok x C.ps.length (hrl S) (by omega)) ?_
    rintro _ h ⟨⟨n, rfl, hn⟩, hf⟩
    have S := S.frame hf
    by_cases c1 : okOrder C.ps.length x
    case neg =>
      rw [dcd_false c1]
      (try simp (maxSteps := 1000000) (disch := first | omega | assumption | exact Nat.le_of_ble_eq_true rfl) only [go_sem, ↓mwp_block, simprocAttr])
      exact hK _ _ ⟨by rw [dcd_false (hbad c1)], S.fr⟩
    rw [dcd_true c1, hn c1]
    have hxb := all_bound c1.2.1
    have w1 : IntKind.i64.wrap (ordSum (C.os.take i) + cntOf x.ls) = ordSum (C.os.take i) + cntOf x.ls := by
      have := c1.1.2.1
      exact wrap_i64 (by omega) (by omega)
    (try simp (maxSteps := 1000000) (disch := first | omega | assumption | exact Nat.le_of_ble_eq_true rfl) only [go_sem, ↓mwp_block, simprocAttr, e3, w1, e29])
    refine hJ _ _ ?_ ?_
    · (try simp (maxSteps := 1000000) (disch := first | omega | assumption | exact Nat.le_of_ble_eq_true rfl) only [go_sem, ↓mwp_block, simprocAttr, e1, e27, e28, hA])
      exact ⟨i + 1, rfl, by omega, htk c1, by rw [hs1], S.tl⟩
    · (try simp (maxSteps := 1000000) (disch := first | omega | assumption | exact Nat.le_of_ble_eq_true rfl) only [go_sem, ↓mwp_block, simprocAttr, e29])
      omega
  obtain rfl : i = C.os.length := by omega
  rw [List.take_length] at hok e3
  clear hJ
  have hob := ord_bound hok
  ((try clear F); have F := S.all; (try simp only [all_cons, all_nil, says_cell, and_true] at F))
  (try simp (maxSteps := 1000000) (disch := first | omega | assumption | exact Nat.le_of_ble_eq_true rfl) only [go_sem, ↓mwp_block, simprocAttr, e1, F, Cfg.enc])
  refine loop_intro (fun ρ h' => ρ 1 = .pointer (some ⟨g, 0, none⟩) ∧ ρ 48 = .slice C.A2 C.ss.length C.c2 ∧ ρ 49 = .int .i64 C.ss.length ∧ ∃ i : Nat, ρ 50 = .int .i64 i ∧ i ≤ C.ss.length ∧ okSups (C.ss.take i) ∧ ρ 3 = .int .i64 (ordSum C.os + supSum (C.ss.take i)) ∧
    St h0 h' [cellA g C.enc 26]) (fun ρ _ => C.ss.length - (iv (ρ 50)).toNat) ?_ ?_
  · (try simp (maxSteps := 1000000) (disch := first | omega | assumption | exact Nat.le_of_ble_eq_true rfl) only [go_sem, ↓mwp_block, simprocAttr, e1, e3])
    exact ⟨0, rfl, by omega, ⟨by simp, by simp⟩, by simp [supSum], S⟩
  clear S F e1 e27 e28 e29 e3
  rintro ρ h J hJ ⟨e1, e48, e49, i, e50, hi, hsu, e3, S⟩
  (try simp (maxSteps := 1000000) (disch := first | omega | assumption | exact Nat.le_of_ble_eq_true rfl) only [go_sem, ↓mwp_block, simprocAttr, e49, e50])
  refine cond_dec (fun hlt => ?_) (fun hlt => ?_)
  · have hil : i < C.ss.length := by omega
    obtain ⟨b, off, hA, hr1⟩ := (r' S).ss.at hil
    have hsb := sup_bound hsu.1
    have hlen : (C.ss.take i).length ≤ 20 := by rw [List.length_take]; omega
    have hs1 := supSum_snoc hil
    have hno := fun h : okCfg C => sups_no hil h.2.2.2.2.1
    have hsn := sups_snoc hil hsu
    have hc2 := w.l2
    have hm2 := w.m2
    generalize C.ss[i] = x at *
    (try simp (maxSteps := 1000000) (disch := first | omega | assumption | exact Nat.le_of_ble_eq_true rfl) only [go_sem, ↓mwp_block, simprocAttr, e48, e50, hA, hr1])
    (refine st_alloc S ?_; clear S; intro q h S; (try simp only [splice_cons, splice_nil, List.set_cons_zero, List.set_cons_succ, Nat.zero_add, Nat.reduceAdd, List.cons_append, List.nil_append] at S); ((try clear F); have F := S.all; (try simp only [all_cons, all_nil, says_cell, and_true] at F)))
    (try simp (maxSteps := 1000000) (disch := first | omega | assumption | exact Nat.le_of_ble_eq_true rfl) only [go_sem, ↓mwp_block, simprocAttr, F, Sup.enc])
    (refine st_store (by first | exact S | exact S.p1 | exact S.p2 | exact S.p3 | exact S.p4 | exact S.p5 | exact S.p6 | exact S.p7 | exact S.p8 | exact S.p9 | exact S.p10 | exact S.p11) (by rfl) (by rfl) (Nat.le_of_ble_eq_true rfl) ?_; clear S; intro h S; (try simp only [splice_cons, splice_nil, List.set_cons_zero, List.set_cons_succ, Nat.zero_add, Nat.reduceAdd, List.cons_append, List.nil_append] at S); ((try clear F); have F := S.all; (try simp only [all_cons, all_nil, says_cell, and_true] at F)))
    (try simp (maxSteps := 1000000) (disch := first | omega | assumption | exact Nat.le_of_ble_eq_true rfl) only [go_sem, ↓mwp_block, simprocAttr, F])
    refine call_intro (some_ok _ _ _ _) ?_
    rintro _ _ ⟨rfl, rfl⟩
    by_cases c1 : okSome x.sku x.price x.count
    case neg =>
      rw [dcd_false c1]
      (try simp (maxSteps := 1000000) (disch := first | omega | assumption | exact Nat.le_of_ble_eq_true rfl) only [go_sem, ↓mwp_block, simprocAttr])
      exact hK _ _ ⟨by rw [dcd_false (fun h => c1 (hno h).1)], S.fr⟩
    rw [dcd_true c1]
    (try simp (maxSteps := 1000000) (disch := first | omega | assumption | exact Nat.le_of_ble_eq_true rfl) only [go_sem, ↓mwp_block, simprocAttr, e1, F, Cfg.enc])
    refine call_intro (ContainsS_ok (s := x) S (arrTake (r' S).ss i) (by rw [List.length_take]; omega) (by rw [List.length_take]; omega)) ?_
    rintro _ h ⟨rfl, hf⟩
    have S := S.frame hf
    ((try clear F); have F := S.all; (try simp only [all_cons, all_nil, says_cell, and_true] at F))
    by_cases c2 : ∃ y ∈ C.ss.take i, y.sku = x.sku
    · rw [dcd_true c2]
      (try simp (maxSteps := 1000000) (disch := first | omega | assumption | exact Nat.le_of_ble_eq_true rfl) only [go_sem, ↓mwp_block, simprocAttr])
      exact hK _ _ ⟨by rw [dcd_false (fun h => (hno h).2 c2)], S.fr⟩
    rw [dcd_false c2]
    have w1 : IntKind.i64.wrap (ordSum C.os + supSum (C.ss.take i) + x.count) = ordSum C.os + supSum (C.ss.take i) + x.count := by
      have := c1.2.2
      exact wrap_i64 (by omega) (by omega)
    (try simp (maxSteps := 1000000) (disch := first | omega | assumption | exact Nat.le_of_ble_eq_true rfl) only [go_sem, ↓mwp_block, simprocAttr, e3, F, w1, e50, Sup.enc])
    refine hJ _ _ ?_ ?_
    · (try simp (maxSteps := 1000000) (disch := first | omega | assumption | exact Nat.le_of_ble_eq_true rfl) only [go_sem, ↓mwp_block, simprocAttr, e1, e48, e49, hA])
      exact ⟨i + 1, rfl, by omega, hsn c1 c2, by rw [hs1, Int.add_assoc], S.tl⟩
    · (try simp (maxSteps := 1000000) (disch := first | omega | assumption | exact Nat.le_of_ble_eq_true rfl) only [go_sem, ↓mwp_block, simprocAttr, e50])
      omega
  obtain rfl : i = C.ss.length := by omega
  rw [List.take_length] at hsu e3
  (try simp (maxSteps := 1000000) (disch := first | omega | assumption | exact Nat.le_of_ble_eq_true rfl) only [go_sem, ↓mwp_block, simprocAttr, e3])
  exact hK _ _ ⟨congrArg Value.bool (congrArg dcd (propext ⟨fun h => ⟨d1, by omega, by omega, hok, hsu, h⟩, fun h => h.2.2.2.2.2⟩)), S.fr⟩
end Go.Proofs.YtblalmgahfbalaaGreat.MX

/- The document's bytes of a table; the law TableWrites. -/
namespace Go.Proofs.YtblalmgahfbalaaGreat.MX
open Go Go.Proofs
set_option linter.unusedSimpArgs false
set_option linter.unusedVariables false

end Go.Proofs.YtblalmgahfbalaaGreat.MX
