/- Texts in one file: Tb4, Od1, Od2. -/
import Derived.Test.YtblalmgahfbalaaGreatK18

/- The document's tables: which are right, and their bytes. -/
namespace Go.Proofs.YtblalmgahfbalaaGreat.MX
open Go Go.Proofs
set_option linter.unusedSimpArgs false
set_option linter.unusedVariables false

def Pol.fee (p : Pol) : Nat → Int | 0 => p.f0 | 1 => p.f1 | 2 => p.f2 | _ => p.f3
def Pol.sh (p : Pol) : Nat → Int | 0 => p.s0 | 1 => p.s1 | 2 => p.s2 | _ => p.s3
def Pol.to (p : Pol) : Nat → Int | 0 => p.t0 | 1 => p.t1 | 2 => p.t2 | _ => p.t3
def Pol.okAt (p : Pol) (i : Nat) : Prop := okPts (p.fee i) ∧ okGrade (p.sh i) (p.to i)
theorem Pol.right_iff (p : Pol) : p.right ↔ (∀ i, i < 4 → p.okAt i) ∧ 0 ≤ p.w ∧ p.w ≤ 1000 := by
  constructor
  · rintro ⟨⟨a0, a1, a2, a3⟩, ⟨b0, b1, b2, b3⟩, hw⟩
    refine ⟨fun i hi => ?_, hw⟩
    obtain rfl | rfl | rfl | rfl : i = 0 ∨ i = 1 ∨ i = 2 ∨ i = 3 := by omega
    · exact ⟨a0, b0⟩
    · exact ⟨a1, b1⟩
    · exact ⟨a2, b2⟩
    · exact ⟨a3, b3⟩
  · rintro ⟨h, hw⟩
    have h0 := h 0 (by omega)
    have h1 := h 1 (by omega)
    have h2 := h 2 (by omega)
    have h3 := h 3 (by omega)
    exact ⟨⟨h0.1, h1.1, h2.1, h3.1⟩, ⟨h0.2, h1.2, h2.2, h3.2⟩, hw⟩
theorem Pol.enc_fee (p : Pol) {i : Nat} (hi : i < 4) : p.enc[4 + i]? = some (.int .i64 (p.fee i)) := by
  obtain rfl | rfl | rfl | rfl : i = 0 ∨ i = 1 ∨ i = 2 ∨ i = 3 := by omega
  all_goals rfl
theorem Pol.enc_gr (p : Pol) {i : Nat} (hi : i < 4) : (p.enc.drop (8 + i * 2)).take 2 = [.int .i64 (p.sh i), .int .i64 (p.to i)] := by
  obtain rfl | rfl | rfl | rfl : i = 0 ∨ i = 1 ∨ i = 2 ∨ i = 3 := by omega
  all_goals rfl
set_option maxHeartbeats 4000000 in
theorem RightPolicy_ok (p : Pol) (h0 : Heap) : CallsH Tryz.prog 51 [.agg p.enc.toArray] h0 fun v h' => v = .bool (dcd p.right) ∧ Fr h0 h' [] := by
  have S := St.nil h0
  have hel : p.enc.length = 16 := rfl
  (refine enterK c_recoupref05_RightPolicy (Nat.le_of_ble_eq_true rfl) fun K hK => ?_; (try simp (maxSteps := 1000000) (disch := first | omega | assumption | exact Nat.le_of_ble_eq_true rfl) only [go_sem, ↓mwp_block, simprocAttr, ir_recoupref05_RightPolicy]))
  (refine st_alloc S ?_; clear S; intro b h S; (try simp only [splice_cons, splice_nil, List.set_cons_zero, List.set_cons_succ, Nat.zero_add, Nat.reduceAdd, List.cons_append, List.nil_append] at S); ((try clear F); have F := S.all; (try simp only [all_cons, all_nil, says_cell, and_true] at F)))
  (try simp (maxSteps := 1000000) (disch := first | omega | assumption | exact Nat.le_of_ble_eq_true rfl) only [go_sem, ↓mwp_block, simprocAttr, F])
  refine loop_intro (fun ρ h' => ρ 1 = .pointer (some ⟨b, 0, none⟩) ∧ ∃ i : Nat, ρ 5 = .int .i64 i ∧ i ≤ 4 ∧ (∀ j, j < i → p.okAt j) ∧ St h0 h' [cellA b p.enc 48]) (fun ρ _ => 4 - (iv (ρ 5)).toNat) ?_ ?_
  · (try simp (maxSteps := 1000000) (disch := first | omega | assumption | exact Nat.le_of_ble_eq_true rfl) only [go_sem, ↓mwp_block, simprocAttr])
    exact ⟨0, rfl, by omega, by omega, S⟩
  · clear S F
    rintro ρ h' J hJ ⟨e1, i, e5, hi, hok, S⟩
    (try simp (maxSteps := 1000000) (disch := first | omega | assumption | exact Nat.le_of_ble_eq_true rfl) only [go_sem, ↓mwp_block, simprocAttr, e5])
    refine cond_dec (fun hg => ?_) (fun hg => ?_)
    · have hi4 : i < 4 := by omega
      have g1 := p.enc_fee hi4
      have g2 := p.enc_gr hi4
      have hfail : ¬ p.okAt i → ¬ p.right := fun h1 h2 => h1 (p.right_iff.1 h2 |>.1 i hi4)
      have hnext : p.okAt i → ∀ j, j < i + 1 → p.okAt j := fun h1 j hj => by
        rcases Nat.lt_or_ge j i with h2 | h2
        · exact hok j h2
        · obtain rfl : j = i := by omega
          exact h1
      simp only [Pol.okAt] at hfail hnext
      generalize p.fee i = f at g1 hfail hnext
      generalize p.sh i = s at g2 hfail hnext
      generalize p.to i = t at g2 hfail hnext
      ((try clear F); have F := S.all; (try simp only [all_cons, all_nil, says_cell, and_true] at F))
      (try simp (maxSteps := 1000000) (disch := first | omega | assumption | exact Nat.le_of_ble_eq_true rfl) only [go_sem, ↓mwp_block, simprocAttr, e1, e5, F, Nat.mul_one, g2])
      (refine st_alloc S ?_; clear S; intro q h S; (try simp only [splice_cons, splice_nil, List.set_cons_zero, List.set_cons_succ, Nat.zero_add, Nat.reduceAdd, List.cons_append, List.nil_append] at S); ((try clear F); have F := S.all; (try simp only [all_cons, all_nil, says_cell, and_true] at F)))
      (try simp (maxSteps := 1000000) (disch := first | omega | assumption | exact Nat.le_of_ble_eq_true rfl) only [go_sem, ↓mwp_block, simprocAttr, e1, e5, F, Nat.mul_one, g1, g2])
      (refine st_store (by first | exact S | exact S.p1 | exact S.p2 | exact S.p3 | exact S.p4 | exact S.p5 | exact S.p6 | exact S.p7 | exact S.p8 | exact S.p9 | exact S.p10 | exact S.p11) (by rfl) (by rfl) (Nat.le_of_ble_eq_true rfl) ?_; clear S; intro h S; (try simp only [splice_cons, splice_nil, List.set_cons_zero, List.set_cons_succ, Nat.zero_add, Nat.reduceAdd, List.cons_append, List.nil_append] at S); ((try clear F); have F := S.all; (try simp only [all_cons, all_nil, says_cell, and_true] at F)))
      (try simp (maxSteps := 1000000) (disch := first | omega | assumption | exact Nat.le_of_ble_eq_true rfl) only [go_sem, ↓mwp_block, simprocAttr, e1, e5, F, Nat.mul_one, g1])
      refine call_intro (refPoints_ok _ _) ?_
      rintro _ _ ⟨rfl, rfl⟩
      have S' := S.tl
      by_cases hf : okPts f
      · (try simp (maxSteps := 1000000) (disch := first | omega | assumption | exact Nat.le_of_ble_eq_true rfl) only [go_sem, ↓mwp_block, simprocAttr, F])
        refine call_intro (refPoints_ok _ _) ?_
        rintro _ _ ⟨rfl, rfl⟩
        by_cases hs : okPts s
        · by_cases ht : okGrade s t
          · have hgo : p.okAt i → True := fun _ => trivial
            rcases ht.2 with ⟨ht0, hs0⟩ | ⟨ht3, ht5⟩
            · (try simp (maxSteps := 1000000) (disch := first | omega | assumption | exact Nat.le_of_ble_eq_true rfl) only [go_sem, ↓mwp_block, simprocAttr, F, e1, e5])
              refine hJ _ _ ?_ ?_
              · (try simp (maxSteps := 1000000) (disch := first | omega | assumption | exact Nat.le_of_ble_eq_true rfl) only [go_sem, ↓mwp_block, simprocAttr, e1, e5])
                exact ⟨i + 1, rfl, by omega, hnext ⟨hf, ht⟩, S'⟩
              · (try simp (maxSteps := 1000000) (disch := first | omega | assumption | exact Nat.le_of_ble_eq_true rfl) only [go_sem, ↓mwp_block, simprocAttr, e5])
                omega
            · obtain rfl | rfl | rfl : t = 3 ∨ t = 4 ∨ t = 5 := by omega
              all_goals
                (try simp (maxSteps := 1000000) (disch := first | omega | assumption | exact Nat.le_of_ble_eq_true rfl) only [go_sem, ↓mwp_block, simprocAttr, F, e1, e5])
                refine hJ _ _ ?_ ?_
                · (try simp (maxSteps := 1000000) (disch := first | omega | assumption | exact Nat.le_of_ble_eq_true rfl) only [go_sem, ↓mwp_block, simprocAttr, e1, e5])
                  exact ⟨i + 1, rfl, by omega, hnext ⟨hf, ht⟩, S'⟩
                · (try simp (maxSteps := 1000000) (disch := first | omega | assumption | exact Nat.le_of_ble_eq_true rfl) only [go_sem, ↓mwp_block, simprocAttr, e5])
                  omega
          · have hr : ¬ p.right := hfail fun h => ht h.2
            by_cases ht0 : t = 0
            · have hs0 : ¬ s = 0 := fun h => ht ⟨hs, .inl ⟨ht0, h⟩⟩
              (try simp (maxSteps := 1000000) (disch := first | omega | assumption | exact Nat.le_of_ble_eq_true rfl) only [go_sem, ↓mwp_block, simprocAttr, F])
              exact hK _ _ ⟨by rw [dcd_false hr], S.fr⟩
            · have ht3 : ¬ t = 3 := fun h => ht ⟨hs, .inr (by omega)⟩
              have ht4 : ¬ t = 4 := fun h => ht ⟨hs, .inr (by omega)⟩
              have ht5 : ¬ t = 5 := fun h => ht ⟨hs, .inr (by omega)⟩
              (try simp (maxSteps := 1000000) (disch := first | omega | assumption | exact Nat.le_of_ble_eq_true rfl) only [go_sem, ↓mwp_block, simprocAttr, F])
              exact hK _ _ ⟨by rw [dcd_false hr], S.fr⟩
        · have hr : ¬ p.right := hfail fun h => hs h.2.1
          (try simp (maxSteps := 1000000) (disch := first | omega | assumption | exact Nat.le_of_ble_eq_true rfl) only [go_sem, ↓mwp_block, simprocAttr, F])
          exact hK _ _ ⟨by rw [dcd_false hr], S.fr⟩
      · have hr : ¬ p.right := hfail fun h => hf h.1
        (try simp (maxSteps := 1000000) (disch := first | omega | assumption | exact Nat.le_of_ble_eq_true rfl) only [go_sem, ↓mwp_block, simprocAttr, F])
        exact hK _ _ ⟨by rw [dcd_false hr], S.fr⟩
    · obtain rfl : i = 4 := by omega
      ((try clear F); have F := S.all; (try simp only [all_cons, all_nil, says_cell, and_true] at F))
      have gw : p.enc[0]? = some (.int .i64 p.w) := rfl
      by_cases hw0 : 0 ≤ p.w
      · by_cases h1 : p.w ≤ 1000
        · (try simp (maxSteps := 1000000) (disch := first | omega | assumption | exact Nat.le_of_ble_eq_true rfl) only [go_sem, ↓mwp_block, simprocAttr, e1, F, gw])
          exact hK _ _ ⟨by rw [dcd_true]; exact p.right_iff.2 ⟨hok, hw0, h1⟩, S.fr⟩
        · (try simp (maxSteps := 1000000) (disch := first | omega | assumption | exact Nat.le_of_ble_eq_true rfl) only [go_sem, ↓mwp_block, simprocAttr, e1, F, gw])
          exact hK _ _ ⟨by rw [dcd_false]; exact fun h => h1 h.2.2.2, S.fr⟩
      · (try simp (maxSteps := 1000000) (disch := first | omega | assumption | exact Nat.le_of_ble_eq_true rfl) only [go_sem, ↓mwp_block, simprocAttr, e1, F, gw])
        exact hK _ _ ⟨by rw [dcd_false]; exact fun h => hw0 h.2.2.1, S.fr⟩

theorem RightTable_ok {A : Option Addr} {c : Nat} {xs : List Pol} {h0 : Heap} (ha : Arr Pol.enc 16 h0 A xs) (hl : xs.length < 1000000000) :
    CallsH Tryz.prog 21 [.slice A xs.length c] h0 fun v h' => v = .bool (dcd (RightT xs)) ∧ Fr h0 h' [] := by
  have S := St.nil h0
  (refine enterK c_recoupref05_RightTable (Nat.le_of_ble_eq_true rfl) fun K hK => ?_; (try simp (maxSteps := 1000000) (disch := first | omega | assumption | exact Nat.le_of_ble_eq_true rfl) only [go_sem, ↓mwp_block, simprocAttr, ir_recoupref05_RightTable]))
  refine loop_intro (fun ρ h' => ρ 0 = .slice A xs.length c ∧ ρ 5 = .int .i64 xs.length ∧ ∃ i : Nat, ρ 6 = .int .i64 i ∧ i ≤ xs.length ∧ i ≤ 16 ∧ (∀ p ∈ xs.take i, p.right) ∧ St h0 h' []) (fun ρ _ => xs.length - (iv (ρ 6)).toNat) ?_ ?_
  · (try simp (maxSteps := 1000000) (disch := first | omega | assumption | exact Nat.le_of_ble_eq_true rfl) only [go_sem, ↓mwp_block, simprocAttr])
    exact ⟨0, rfl, by omega, by omega, by simp, S⟩
  · clear S
    rintro ρ h' J hJ ⟨e0, e5, i, e6, hi, hi16, hok, S⟩
    (try simp (maxSteps := 1000000) (disch := first | omega | assumption | exact Nat.le_of_ble_eq_true rfl) only [go_sem, ↓mwp_block, simprocAttr, e5, e6])
    refine cond_dec (fun hg => ?_) (fun hg => ?_)
    · have hlt : i < xs.length := by omega
      by_cases h16 : i = 16
      · (try simp (maxSteps := 1000000) (disch := first | omega | assumption | exact Nat.le_of_ble_eq_true rfl) only [go_sem, ↓mwp_block, simprocAttr, e0, e6])
        exact hK _ _ ⟨by rw [dcd_false]; exact fun h => by have := h.1; omega, S.fr⟩
      · obtain ⟨b, off, rfl, hr1⟩ := (ha.fr S.fr (by simp)).at hlt
        (try simp (maxSteps := 1000000) (disch := first | omega | assumption | exact Nat.le_of_ble_eq_true rfl) only [go_sem, ↓mwp_block, simprocAttr, e0, e6, hr1])
        refine call_intro (RightPolicy_ok xs[i] _) ?_
        rintro _ h ⟨rfl, hf⟩
        have S := S.frame hf
        (try simp (maxSteps := 1000000) (disch := first | omega | assumption | exact Nat.le_of_ble_eq_true rfl) only [go_sem, ↓mwp_block, simprocAttr])
        refine cond_decn (fun hn => ?_) (fun hp => ?_)
        · (try simp (maxSteps := 1000000) (disch := first | omega | assumption | exact Nat.le_of_ble_eq_true rfl) only [go_sem, ↓mwp_block, simprocAttr])
          exact hK _ _ ⟨by rw [dcd_false]; exact fun h => hn (h.2 _ (List.getElem_mem hlt)), S.fr⟩
        · (try simp (maxSteps := 1000000) (disch := first | omega | assumption | exact Nat.le_of_ble_eq_true rfl) only [go_sem, ↓mwp_block, simprocAttr, e6])
          refine hJ _ _ ?_ ?_
          · (try simp (maxSteps := 1000000) (disch := first | omega | assumption | exact Nat.le_of_ble_eq_true rfl) only [go_sem, ↓mwp_block, simprocAttr, e0, e5, e6])
            refine ⟨i + 1, rfl, by omega, by omega, ?_, S⟩
            rw [List.take_succ_eq_append_getElem hlt]
            intro q hq
            rcases List.mem_append.1 hq with hq | hq
            · exact hok q hq
            · simp at hq; rw [hq]; exact hp
          · (try simp (maxSteps := 1000000) (disch := first | omega | assumption | exact Nat.le_of_ble_eq_true rfl) only [go_sem, ↓mwp_block, simprocAttr, e6])
            omega
    · obtain rfl : i = xs.length := by omega
      rw [List.take_length] at hok
      (try simp (maxSteps := 1000000) (disch := first | omega | assumption | exact Nat.le_of_ble_eq_true rfl) only [go_sem, ↓mwp_block, simprocAttr])
      exact hK _ _ ⟨by rw [dcd_true]; exact ⟨hi16, hok⟩, S.fr⟩
end Go.Proofs.YtblalmgahfbalaaGreat.MX

/- Orders: what stands in a config. -/
namespace Go.Proofs.YtblalmgahfbalaaGreat.MX
open Go Go.Proofs
set_option linter.unusedSimpArgs false
set_option linter.unusedVariables false
set_option maxHeartbeats 4000000
/-- A line of an order. -/
structure Lin where
  sku : Int
  cat : Int
  price : Int
  count : Int
def Lin.enc (x : Lin) : List Value := [.int .i64 x.sku, .int .i64 x.cat, .int .i64 x.price, .int .i64 x.count]
def Lin.ok (x : Lin) : Prop := I64 x.sku ∧ I64 x.cat ∧ I64 x.price ∧ I64 x.count
theorem Lin.enc_len (x : Lin) : x.enc.length = 4 := rfl
theorem Lin.enc_plain (x : Lin) : plainCells x.enc = true := rfl
theorem lin_of {h : Heap} {d : Nat} {cs : List Value} (hg : Good Tryz.prog h d 69 cs) : ∃ x : Lin, cs = x.enc ∧ x.ok := by
  have hl : leaves Tryz.prog 3 69 = some [.int .i64, .int .i64, .int .i64, .int .i64] := by kernel_rfl
  obtain ⟨a0, _, rfl, w0, a1, _, rfl, w1, a2, _, rfl, w2, a3, _, rfl, w3, rfl⟩ := leaves_of 3 hg hl
  exact ⟨⟨a0, a1, a2, a3⟩, rfl, wf_i64 w0, wf_i64 w1, wf_i64 w2, wf_i64 w3⟩
/-- A supply. -/
structure Sup where
  sku : Int
  price : Int
  count : Int
def Sup.enc (x : Sup) : List Value := [.int .i64 x.sku, .int .i64 x.price, .int .i64 x.count]
def Sup.ok (x : Sup) : Prop := I64 x.sku ∧ I64 x.price ∧ I64 x.count
theorem Sup.enc_len (x : Sup) : x.enc.length = 3 := rfl
theorem Sup.enc_plain (x : Sup) : plainCells x.enc = true := rfl
theorem sup_of {h : Heap} {d : Nat} {cs : List Value} (hg : Good Tryz.prog h d 71 cs) : ∃ x : Sup, cs = x.enc ∧ x.ok := by
  have hl : leaves Tryz.prog 3 71 = some [.int .i64, .int .i64, .int .i64] := by kernel_rfl
  obtain ⟨a0, _, rfl, w0, a1, _, rfl, w1, a2, _, rfl, w2, rfl⟩ := leaves_of 3 hg hl
  exact ⟨⟨a0, a1, a2⟩, rfl, wf_i64 w0, wf_i64 w1, wf_i64 w2⟩
/-- An order. -/
structure Odr where
  day : Int
  A : Option Addr
  c : Nat
  ls : List Lin
  disc : Int
  tax : Int
  ship : Int
def Odr.enc (o : Odr) : List Value := [.int .i64 o.day, .slice o.A o.ls.length o.c, .int .i64 o.disc, .int .i64 o.tax, .int .i64 o.ship]
theorem Odr.enc_len (x : Odr) : x.enc.length = 5 := rfl
theorem Odr.enc_plain (x : Odr) : plainCells x.enc = true := rfl
structure Odr.ok (h : Heap) (o : Odr) : Prop where
  arr : Arr Lin.enc 4 h o.A o.ls
  le : o.ls.length ≤ o.c
  lt : o.c < 9223372036854775808
  ls : ∀ l ∈ o.ls, l.ok
  day : I64 o.day
  disc : I64 o.disc
  tax : I64 o.tax
  ship : I64 o.ship
theorem odr_of {h : Heap} {d : Nat} {cs : List Value} (hg : Good Tryz.prog h d 66 cs) : ∃ o : Odr, cs = o.enc ∧ o.ok h := by
  have hl : leaves Tryz.prog 3 66 = some [.int .i64, .slice 69, .int .i64, .int .i64, .int .i64] := by kernel_rfl
  obtain ⟨a0, _, rfl, w0, v, _, rfl, g, a2, _, rfl, w2, a3, _, rfl, w3, a4, _, rfl, w4, rfl⟩ := leaves_of 3 hg hl
  obtain ⟨A, c, xs, rfl, ha, h1, h2, h3⟩ := GoodS.arr (enc := Lin.enc) (sz := 4) (by kernel_rfl) (by decide) g lin_of
  have hm : maxLen = 9223372036854775807 := rfl
  exact ⟨⟨a0, A, c, xs, a2, a3, a4⟩, rfl, ha, h1, by show c < _; omega, h3, wf_i64 w0, wf_i64 w2, wf_i64 w3, wf_i64 w4⟩
/-- A config. -/
structure Cfg where
  A1 : Option Addr
  c1 : Nat
  os : List Odr
  A2 : Option Addr
  c2 : Nat
  ss : List Sup
  A3 : Option Addr
  c3 : Nat
  ps : List Pol
def Cfg.enc (C : Cfg) : List Value := [.slice C.A1 C.os.length C.c1, .slice C.A2 C.ss.length C.c2, .slice C.A3 C.ps.length C.c3]
theorem Cfg.enc_len (x : Cfg) : x.enc.length = 3 := rfl
/-- What stands behind a config's slices. -/
structure Cfg.rd (h : Heap) (C : Cfg) : Prop where
  os : Arr Odr.enc 5 h C.A1 C.os
  ls : ∀ o ∈ C.os, Arr Lin.enc 4 h o.A o.ls
  ss : Arr Sup.enc 3 h C.A2 C.ss
  ps : Arr Pol.enc 16 h C.A3 C.ps
theorem Cfg.rd.fr {h h' : Heap} {C : Cfg} (r : C.rd h) (hf : Fr h h' []) : C.rd h' :=
  ⟨r.os.fr hf (by simp), fun o ho => (r.ls o ho).fr hf (by simp), r.ss.fr hf (by simp), r.ps.fr hf (by simp)⟩
structure Cfg.wf (C : Cfg) : Prop where
  l1 : C.os.length ≤ C.c1
  m1 : C.c1 < 9223372036854775808
  l2 : C.ss.length ≤ C.c2
  m2 : C.c2 < 9223372036854775808
  l3 : C.ps.length ≤ C.c3
  m3 : C.c3 < 9223372036854775808
  ol : ∀ o ∈ C.os, o.ls.length ≤ o.c ∧ o.c < 9223372036854775808
structure Cfg.ok (h : Heap) (C : Cfg) : Prop where
  rd : C.rd h
  wf : C.wf
theorem cfg_of {h : Heap} {d : Nat} {cs : List Value} (hg : Good Tryz.prog h d 26 cs) : ∃ C : Cfg, cs = C.enc ∧ C.ok h := by
  have hl : leaves Tryz.prog 3 26 = some [.slice 66, .slice 71, .slice 48] := by kernel_rfl
  obtain ⟨v1, _, rfl, g1, v2, _, rfl, g2, v3, _, rfl, g3, rfl⟩ := leaves_of 3 hg hl
  have hm : maxLen = 9223372036854775807 := rfl
  obtain ⟨A1, c1, os, rfl, ha1, p1, q1, k1⟩ := GoodS.arr (enc := Odr.enc) (sz := 5) (ok := Odr.ok h) (by kernel_rfl) (by decide) g1 odr_of
  obtain ⟨A2, c2, ss, rfl, ha2, p2, q2, k2⟩ := GoodS.arr (enc := Sup.enc) (sz := 3) (by kernel_rfl) (by decide) g2 sup_of
  obtain ⟨A3, c3, ps, rfl, ha3, p3, q3, k3⟩ := GoodS.arr (enc := Pol.enc) (sz := 16) (by kernel_rfl) (by decide) g3 pol_of
  exact ⟨⟨A1, c1, os, A2, c2, ss, A3, c3, ps⟩, rfl, ⟨ha1, fun o ho => (k1 o ho).arr, ha2, ha3⟩, ⟨p1, by show c1 < _; omega, p2, by show c2 < _; omega, p3, by show c3 < _; omega, fun o ho => ⟨(k1 o ho).le, (k1 o ho).lt⟩⟩⟩
/-! What is right. -/
def okPrice (n : Int) : Prop := 0 ≤ n ∧ n ≤ 1073741824
def okSome (sku p count : Int) : Prop := (1 ≤ sku ∧ sku ≤ 1000) ∧ okPrice p ∧ (1 ≤ count ∧ count ≤ 50)
def okLine (k : Int) (l : Lin) : Prop := okSome l.sku l.price l.count ∧ 0 ≤ l.cat ∧ l.cat < k
def allOf (ls : List Lin) : Int := (ls.map fun l => l.price * l.count).sum
def cntOf (ls : List Lin) : Int := (ls.map Lin.count).sum
def okHead (o : Odr) : Prop := (0 ≤ o.day ∧ o.day ≤ 100000) ∧ (1 ≤ o.ls.length ∧ o.ls.length ≤ 8) ∧ okPrice o.disc ∧ okPrice o.tax ∧ okPrice o.ship
def okOrder (k : Int) (o : Odr) : Prop := okHead o ∧ (∀ l ∈ o.ls, okLine k l) ∧ o.disc ≤ allOf o.ls
def okSup (s : Sup) : Prop := okSome s.sku s.price s.count
def okSups (ss : List Sup) : Prop := (∀ s ∈ ss, okSup s) ∧ ss.Pairwise (fun a b => a.sku ≠ b.sku)
def totOf (C : Cfg) : Int := (C.os.map fun o => cntOf o.ls).sum + (C.ss.map Sup.count).sum
def okCfg (C : Cfg) : Prop := RightT C.ps ∧ C.os.length ≤ 20 ∧ C.ss.length ≤ 20 ∧ (∀ o ∈ C.os, okOrder C.ps.length o) ∧ okSups C.ss ∧ totOf C ≤ 200
section
variable {h0 h : Heap} {l : List HP}
theorem oprice_ok (n : Int) (h : Heap) : CallsH Tryz.prog 80 [.int .i64 n] h fun v h' => v = .bool (dcd (okPrice n)) ∧ h' = h := by
  by_cases h1 : (0 : Int) ≤ n
  · by_cases h2 : n ≤ 1073741824
    · (refine enterK c_order_price (Nat.le_of_ble_eq_true rfl) fun K hK => ?_; (try simp (maxSteps := 1000000) (disch := first | omega | assumption | exact Nat.le_of_ble_eq_true rfl) only [go_sem, ↓mwp_block, simprocAttr, ir_order_price]))
      (try simp (maxSteps := 1000000) (disch := first | omega | assumption | exact Nat.le_of_ble_eq_true rfl) only [go_sem, ↓mwp_block, simprocAttr, h1, h2])
      exact hK _ _ ⟨by rw [dcd_true ⟨h1, h2⟩], rfl⟩
    · (refine enterK c_order_price (Nat.le_of_ble_eq_true rfl) fun K hK => ?_; (try simp (maxSteps := 1000000) (disch := first | omega | assumption | exact Nat.le_of_ble_eq_true rfl) only [go_sem, ↓mwp_block, simprocAttr, ir_order_price]))
      (try simp (maxSteps := 1000000) (disch := first | omega | assumption | exact Nat.le_of_ble_eq_true rfl) only [go_sem, ↓mwp_block, simprocAttr, h1, h2])
      exact hK _ _ ⟨by rw [dcd_false (fun h => h2 h.2)], rfl⟩
  · (refine enterK c_order_price (Nat.le_of_ble_eq_true rfl) fun K hK => ?_; (try simp (maxSteps := 1000000) (disch := first | omega | assumption | exact Nat.le_of_ble_eq_true rfl) only [go_sem, ↓mwp_block, simprocAttr, ir_order_price]))
    (try simp (maxSteps := 1000000) (disch := first | omega | assumption | exact Nat.le_of_ble_eq_true rfl) only [go_sem, ↓mwp_block, simprocAttr, h1])
    exact hK _ _ ⟨by rw [dcd_false (fun h => h1 h.1)], rfl⟩
theorem rprice_ok (n : Int) (h : Heap) : CallsH Tryz.prog 22 [.int .i64 n] h fun v h' => v = .bool (dcd (okPrice n)) ∧ h' = h := by
  by_cases h1 : (0 : Int) ≤ n
  · by_cases h2 : n ≤ 1073741824
    · (refine enterK c_recoupref05_price (Nat.le_of_ble_eq_true rfl) fun K hK => ?_; (try simp (maxSteps := 1000000) (disch := first | omega | assumption | exact Nat.le_of_ble_eq_true rfl) only [go_sem, ↓mwp_block, simprocAttr, ir_recoupref05_price]))
      (try simp (maxSteps := 1000000) (disch := first | omega | assumption | exact Nat.le_of_ble_eq_true rfl) only [go_sem, ↓mwp_block, simprocAttr, h1, h2])
      exact hK _ _ ⟨by rw [dcd_true ⟨h1, h2⟩], rfl⟩
    · (refine enterK c_recoupref05_price (Nat.le_of_ble_eq_true rfl) fun K hK => ?_; (try simp (maxSteps := 1000000) (disch := first | omega | assumption | exact Nat.le_of_ble_eq_true rfl) only [go_sem, ↓mwp_block, simprocAttr, ir_recoupref05_price]))
      (try simp (maxSteps := 1000000) (disch := first | omega | assumption | exact Nat.le_of_ble_eq_true rfl) only [go_sem, ↓mwp_block, simprocAttr, h1, h2])
      exact hK _ _ ⟨by rw [dcd_false (fun h => h2 h.2)], rfl⟩
  · (refine enterK c_recoupref05_price (Nat.le_of_ble_eq_true rfl) fun K hK => ?_; (try simp (maxSteps := 1000000) (disch := first | omega | assumption | exact Nat.le_of_ble_eq_true rfl) only [go_sem, ↓mwp_block, simprocAttr, ir_recoupref05_price]))
    (try simp (maxSteps := 1000000) (disch := first | omega | assumption | exact Nat.le_of_ble_eq_true rfl) only [go_sem, ↓mwp_block, simprocAttr, h1])
    exact hK _ _ ⟨by rw [dcd_false (fun h => h1 h.1)], rfl⟩
theorem some_ok (sku p count : Int) (h : Heap) : CallsH Tryz.prog 65 [.int .i64 sku, .int .i64 p, .int .i64 count] h fun v h' => v = .bool (dcd (okSome sku p count)) ∧ h' = h := by
  by_cases h1 : (1 : Int) ≤ sku
  case neg =>
    (refine enterK c_order_some (Nat.le_of_ble_eq_true rfl) fun K hK => ?_; (try simp (maxSteps := 1000000) (disch := first | omega | assumption | exact Nat.le_of_ble_eq_true rfl) only [go_sem, ↓mwp_block, simprocAttr, ir_order_some]))
    (try simp (maxSteps := 1000000) (disch := first | omega | assumption | exact Nat.le_of_ble_eq_true rfl) only [go_sem, ↓mwp_block, simprocAttr, h1])
    exact hK _ _ ⟨by rw [dcd_false (fun h => h1 h.1.1)], rfl⟩
  by_cases h2 : sku ≤ 1000
  case neg =>
    (refine enterK c_order_some (Nat.le_of_ble_eq_true rfl) fun K hK => ?_; (try simp (maxSteps := 1000000) (disch := first | omega | assumption | exact Nat.le_of_ble_eq_true rfl) only [go_sem, ↓mwp_block, simprocAttr, ir_order_some]))
    (try simp (maxSteps := 1000000) (disch := first | omega | assumption | exact Nat.le_of_ble_eq_true rfl) only [go_sem, ↓mwp_block, simprocAttr, h1, h2])
    exact hK _ _ ⟨by rw [dcd_false (fun h => h2 h.1.2)], rfl⟩
  (refine enterK c_order_some (Nat.le_of_ble_eq_true rfl) fun K hK => ?_; (try simp (maxSteps := 1000000) (disch := first | omega | assumption | exact Nat.le_of_ble_eq_true rfl) only [go_sem, ↓mwp_block, simprocAttr, ir_order_some]))
  (try simp (maxSteps := 1000000) (disch := first | omega | assumption | exact Nat.le_of_ble_eq_true rfl) only [go_sem, ↓mwp_block, simprocAttr, h1, h2])
  refine call_intro (oprice_ok p _) ?_
  rintro _ _ ⟨rfl, rfl⟩
  by_cases h3 : okPrice p
  case neg =>
    rw [dcd_false h3]
    (try simp (maxSteps := 1000000) (disch := first | omega | assumption | exact Nat.le_of_ble_eq_true rfl) only [go_sem, ↓mwp_block, simprocAttr])
    exact hK _ _ ⟨by rw [dcd_false (fun h => h3 h.2.1)], rfl⟩
  rw [dcd_true h3]
  by_cases h4 : (1 : Int) ≤ count
  case neg =>
    (try simp (maxSteps := 1000000) (disch := first | omega | assumption | exact Nat.le_of_ble_eq_true rfl) only [go_sem, ↓mwp_block, simprocAttr, h4])
    exact hK _ _ ⟨by rw [dcd_false (fun h => h4 h.2.2.1)], rfl⟩
  by_cases h5 : count ≤ 50
  case neg =>
    (try simp (maxSteps := 1000000) (disch := first | omega | assumption | exact Nat.le_of_ble_eq_true rfl) only [go_sem, ↓mwp_block, simprocAttr, h4, h5])
    exact hK _ _ ⟨by rw [dcd_false (fun h => h5 h.2.2.2)], rfl⟩
  (try simp (maxSteps := 1000000) (disch := first | omega | assumption | exact Nat.le_of_ble_eq_true rfl) only [go_sem, ↓mwp_block, simprocAttr, h4, h5])
  exact hK _ _ ⟨by rw [dcd_true ⟨⟨h1, h2⟩, h3, h4, h5⟩], rfl⟩
/-- A line that is right: its price times its count. -/
theorem line_bound {k : Int} {l : Lin} (hl : okLine k l) : 0 ≤ l.price * l.count ∧ l.price * l.count ≤ 53687091200 := by
  obtain ⟨⟨_, ⟨p0, p1⟩, c0, c1⟩, _⟩ := hl
  refine ⟨Int.mul_nonneg p0 (by omega), ?_⟩
  have h1 : l.price * l.count ≤ 1073741824 * l.count := Int.mul_le_mul_of_nonneg_right p1 (by omega)
  omega
theorem all_bound {k : Int} : ∀ {ls : List Lin}, (∀ l ∈ ls, okLine k l) → 0 ≤ allOf ls ∧ allOf ls ≤ 53687091200 * ls.length ∧ (ls.length : Int) ≤ cntOf ls ∧ cntOf ls ≤ 50 * ls.length
  | [], _ => by simp [allOf, cntOf]
  | x :: ls, h => by
    have h1 := line_bound (h x (by simp))
    obtain ⟨⟨_, _, c0, c1⟩, _⟩ := h x (by simp)
    have h2 := all_bound (ls := ls) fun y hy => h y (by simp [hy])
    unfold allOf cntOf at h2 ⊢
    simp only [List.map_cons, List.sum_cons, List.length_cons]
    omega
theorem allOf_snoc {ls : List Lin} {i : Nat} (hi : i < ls.length) : allOf (ls.take (i + 1)) = allOf (ls.take i) + ls[i].price * ls[i].count := by
  rw [List.take_succ_eq_append_getElem hi, allOf, List.map_append, List.sum_append]
  simp [allOf]
theorem cntOf_snoc {ls : List Lin} {i : Nat} (hi : i < ls.length) : cntOf (ls.take (i + 1)) = cntOf (ls.take i) + ls[i].count := by
  rw [List.take_succ_eq_append_getElem hi, cntOf, List.map_append, List.sum_append]
  simp [cntOf]
end
end Go.Proofs.YtblalmgahfbalaaGreat.MX

/- Orders: which are right. -/
namespace Go.Proofs.YtblalmgahfbalaaGreat.MX
open Go Go.Proofs
set_option linter.unusedSimpArgs false
set_option linter.unusedVariables false
set_option maxHeartbeats 8000000
theorem rightOrder_ok {h0 : Heap} (o : Odr) (k : Int) (ha : Arr Lin.enc 4 h0 o.A o.ls) (hl : o.ls.length < 1000000000) :
    CallsH Tryz.prog 64 [.agg o.enc.toArray, .int .i64 k] h0 fun v h' => (∃ n : Int, v = .tuple #[.int .i64 n, .bool (dcd (okOrder k o))] ∧ (okOrder k o → n = cntOf o.ls)) ∧ Fr h0 h' [] := by
  have S := St.nil h0
  by_cases d1 : o.day < 0
  · (refine enterK c_order_rightOrder (Nat.le_of_ble_eq_true rfl) fun K hK => ?_; (try simp (maxSteps := 1000000) (disch := first | omega | assumption | exact Nat.le_of_ble_eq_true rfl) only [go_sem, ↓mwp_block, simprocAttr, ir_order_rightOrder]))
    (refine st_alloc S ?_; clear S; intro g h S; (try simp only [splice_cons, splice_nil, List.set_cons_zero, List.set_cons_succ, Nat.zero_add, Nat.reduceAdd, List.cons_append, List.nil_append] at S); ((try clear F); have F := S.all; (try simp only [all_cons, all_nil, says_cell, and_true] at F)))
    (try simp (maxSteps := 1000000) (disch := first | omega | assumption | exact Nat.le_of_ble_eq_true rfl) only [go_sem, ↓mwp_block, simprocAttr, F, Odr.enc, d1])
    exact hK _ _ ⟨⟨0, by rw [dcd_false (fun h => by have := h.1.1.1; omega)], fun h => by have := h.1.1.1; omega⟩, S.fr⟩
  by_cases d2 : 100000 < o.day
  · (refine enterK c_order_rightOrder (Nat.le_of_ble_eq_true rfl) fun K hK => ?_; (try simp (maxSteps := 1000000) (disch := first | omega | assumption | exact Nat.le_of_ble_eq_true rfl) only [go_sem, ↓mwp_block, simprocAttr, ir_order_rightOrder]))
    (refine st_alloc S ?_; clear S; intro g h S; (try simp only [splice_cons, splice_nil, List.set_cons_zero, List.set_cons_succ, Nat.zero_add, Nat.reduceAdd, List.cons_append, List.nil_append] at S); ((try clear F); have F := S.all; (try simp only [all_cons, all_nil, says_cell, and_true] at F)))
    (try simp (maxSteps := 1000000) (disch := first | omega | assumption | exact Nat.le_of_ble_eq_true rfl) only [go_sem, ↓mwp_block, simprocAttr, F, Odr.enc, d1, d2])
    exact hK _ _ ⟨⟨0, by rw [dcd_false (fun h => by have := h.1.1.2; omega)], fun h => by have := h.1.1.2; omega⟩, S.fr⟩
  by_cases d3 : (o.ls.length : Int) < 1
  · (refine enterK c_order_rightOrder (Nat.le_of_ble_eq_true rfl) fun K hK => ?_; (try simp (maxSteps := 1000000) (disch := first | omega | assumption | exact Nat.le_of_ble_eq_true rfl) only [go_sem, ↓mwp_block, simprocAttr, ir_order_rightOrder]))
    (refine st_alloc S ?_; clear S; intro g h S; (try simp only [splice_cons, splice_nil, List.set_cons_zero, List.set_cons_succ, Nat.zero_add, Nat.reduceAdd, List.cons_append, List.nil_append] at S); ((try clear F); have F := S.all; (try simp only [all_cons, all_nil, says_cell, and_true] at F)))
    (try simp (maxSteps := 1000000) (disch := first | omega | assumption | exact Nat.le_of_ble_eq_true rfl) only [go_sem, ↓mwp_block, simprocAttr, F, Odr.enc, d1, d2, d3])
    exact hK _ _ ⟨⟨0, by rw [dcd_false (fun h => by have := h.1.2.1.1; omega)], fun h => by have := h.1.2.1.1; omega⟩, S.fr⟩
  by_cases d4 : 8 < (o.ls.length : Int)
  · (refine enterK c_order_rightOrder (Nat.le_of_ble_eq_true rfl) fun K hK => ?_; (try simp (maxSteps := 1000000) (disch := first | omega | assumption | exact Nat.le_of_ble_eq_true rfl) only [go_sem, ↓mwp_block, simprocAttr, ir_order_rightOrder]))
    (refine st_alloc S ?_; clear S; intro g h S; (try simp only [splice_cons, splice_nil, List.set_cons_zero, List.set_cons_succ, Nat.zero_add, Nat.reduceAdd, List.cons_append, List.nil_append] at S); ((try clear F); have F := S.all; (try simp only [all_cons, all_nil, says_cell, and_true] at F)))
    (try simp (maxSteps := 1000000) (disch := first | omega | assumption | exact Nat.le_of_ble_eq_true rfl) only [go_sem, ↓mwp_block, simprocAttr, F, Odr.enc, d1, d2, d3, d4])
    exact hK _ _ ⟨⟨0, by rw [dcd_false (fun h => by have := h.1.2.1.2; omega)], fun h => by have := h.1.2.1.2; omega⟩, S.fr⟩
  (refine enterK c_order_rightOrder (Nat.le_of_ble_eq_true rfl) fun K hK => ?_; (try simp (maxSteps := 1000000) (disch := first | omega | assumption | exact Nat.le_of_ble_eq_true rfl) only [go_sem, ↓mwp_block, simprocAttr, ir_order_rightOrder]))
  (refine st_alloc S ?_; clear S; intro g h S; (try simp only [splice_cons, splice_nil, List.set_cons_zero, List.set_cons_succ, Nat.zero_add, Nat.reduceAdd, List.cons_append, List.nil_append] at S); ((try clear F); have F := S.all; (try simp only [all_cons, all_nil, says_cell, and_true] at F)))
  (try simp (maxSteps := 1000000) (disch := first | omega | assumption | exact Nat.le_of_ble_eq_true rfl) only [go_sem, ↓mwp_block, simprocAttr, F, Odr.enc, d1, d2, d3, d4])
  refine call_intro (oprice_ok _ _) ?_
  rintro _ _ ⟨rfl, rfl⟩
  by_cases d5 : okPrice o.disc
  case neg =>
    rw [dcd_false d5]
    (try simp (maxSteps := 1000000) (disch := first | omega | assumption | exact Nat.le_of_ble_eq_true rfl) only [go_sem, ↓mwp_block, simprocAttr])
    exact hK _ _ ⟨⟨0, by rw [dcd_false (fun h => d5 h.1.2.2.1)], fun h => (d5 h.1.2.2.1).elim⟩, S.fr⟩
  rw [dcd_true d5]
  (try simp (maxSteps := 1000000) (disch := first | omega | assumption | exact Nat.le_of_ble_eq_true rfl) only [go_sem, ↓mwp_block, simprocAttr, F, Odr.enc])
  refine call_intro (oprice_ok _ _) ?_
  rintro _ _ ⟨rfl, rfl⟩
  by_cases d6 : okPrice o.tax
  case neg =>
    rw [dcd_false d6]
    (try simp (maxSteps := 1000000) (disch := first | omega | assumption | exact Nat.le_of_ble_eq_true rfl) only [go_sem, ↓mwp_block, simprocAttr])
    exact hK _ _ ⟨⟨0, by rw [dcd_false (fun h => d6 h.1.2.2.2.1)], fun h => (d6 h.1.2.2.2.1).elim⟩, S.fr⟩
  rw [dcd_true d6]
  (try simp (maxSteps := 1000000) (disch := first | omega | assumption | exact Nat.le_of_ble_eq_true rfl) only [go_sem, ↓mwp_block, simprocAttr, F, Odr.enc])
  refine call_intro (oprice_ok _ _) ?_
  rintro _ _ ⟨rfl, rfl⟩
  by_cases d7 : okPrice o.ship
  case neg =>
    rw [dcd_false d7]
    (try simp (maxSteps := 1000000) (disch := first | omega | assumption | exact Nat.le_of_ble_eq_true rfl) only [go_sem, ↓mwp_block, simprocAttr])
    exact hK _ _ ⟨⟨0, by rw [dcd_false (fun h => d7 h.1.2.2.2.2)], fun h => (d7 h.1.2.2.2.2).elim⟩, S.fr⟩
  rw [dcd_true d7]
  have hhead : okHead o := ⟨⟨by omega, by omega⟩, ⟨by omega, by omega⟩, d5, d6, d7⟩
  (try simp (maxSteps := 1000000) (disch := first | omega | assumption | exact Nat.le_of_ble_eq_true rfl) only [go_sem, ↓mwp_block, simprocAttr, F, Odr.enc])
  refine loop_intro (fun ρ h' => ρ 1 = .int .i64 k ∧ ρ 2 = .pointer (some ⟨g, 0, none⟩) ∧ ρ 49 = .slice o.A o.ls.length o.c ∧ ρ 50 = .int .i64 o.ls.length ∧ ∃ i : Nat, ρ 51 = .int .i64 i ∧ i ≤ o.ls.length ∧ (∀ l ∈ o.ls.take i, okLine k l) ∧ ρ 6 = .int .i64 (cntOf (o.ls.take i)) ∧ ρ 7 = .int .i64 (allOf (o.ls.take i)) ∧
    St h0 h' [cellA g o.enc 66]) (fun ρ _ => o.ls.length - (iv (ρ 51)).toNat) ?_ ?_
  · (try simp (maxSteps := 1000000) (disch := first | omega | assumption | exact Nat.le_of_ble_eq_true rfl) only [go_sem, ↓mwp_block, simprocAttr])
    exact ⟨0, rfl, by omega, by simp, rfl, rfl, S⟩
  clear S F
  rintro ρ h J hJ ⟨e1, e2, e49, e50, i, e51, hi, hok, e6, e7, S⟩
  (try simp (maxSteps := 1000000) (disch := first | omega | assumption | exact Nat.le_of_ble_eq_true rfl) only [go_sem, ↓mwp_block, simprocAttr, e50, e51])
  refine cond_dec (fun hlt => ?_) (fun hlt => ?_)
  · have hil : i < o.ls.length := by omega
    obtain ⟨b, off, hA, hr1⟩ := (ha.fr S.fr (by simp)).at hil
    have hlb := all_bound hok
    have hlen : (o.ls.take i).length ≤ 8 := by rw [List.length_take]; omega
    have hmem := List.getElem_mem hil
    have hs1 := allOf_snoc hil
    have hs2 := cntOf_snoc hil
    have hbad : ¬ okLine k o.ls[i] → ¬ okOrder k o := fun hn h => hn (h.2.1 _ hmem)
    have htk : okLine k o.ls[i] → ∀ l ∈ o.ls.take (i + 1), okLine k l := fun hx l hl => by
      rw [List.take_succ_eq_append_getElem hil] at hl
      rcases List.mem_append.1 hl with hl | hl
      · exact hok l hl
      · rw [List.mem_singleton] at hl; rw [hl]; exact hx
    generalize o.ls[i] = x at *
    (try simp (maxSteps := 1000000) (disch := first | omega | assumption | exact Nat.le_of_ble_eq_true rfl) only [go_sem, ↓mwp_block, simprocAttr, e49, e51, hA, hr1])
    (refine st_alloc S ?_; clear S; intro q h S; (try simp only [splice_cons, splice_nil, List.set_cons_zero, List.set_cons_succ, Nat.zero_add, Nat.reduceAdd, List.cons_append, List.nil_append] at S); ((try clear F); have F := S.all; (try simp only [all_cons, all_nil, says_cell, and_true] at F)))
    (try simp (maxSteps := 1000000) (disch := first | omega | assumption | exact Nat.le_of_ble_eq_true rfl) only [go_sem, ↓mwp_block, simprocAttr, F, Lin.enc])
    (refine st_store (by first | exact S | exact S.p1 | exact S.p2 | exact S.p3 | exact S.p4 | exact S.p5 | exact S.p6 | exact S.p7 | exact S.p8 | exact S.p9 | exact S.p10 | exact S.p11) (by rfl) (by rfl) (Nat.le_of_ble_eq_true rfl) ?_; clear S; intro h S; (try simp only [splice_cons, splice_nil, List.set_cons_zero, List.set_cons_succ, Nat.zero_add, Nat.reduceAdd, List.cons_append, List.nil_append] at S); ((try clear F); have F := S.all; (try simp only [all_cons, all_nil, says_cell, and_true] at F)))
    (try simp (maxSteps := 1000000) (disch := first | omega | assumption | exact Nat.le_of_ble_eq_true rfl) only [go_sem, ↓mwp_block, simprocAttr, F])
    refine call_intro (some_ok _ _ _ _) ?_
    rintro _ _ ⟨rfl, rfl⟩
    by_cases c1 : okSome x.sku x.price x.count
    case neg =>
      rw [dcd_false c1]
      (try simp (maxSteps := 1000000) (disch := first | omega | assumption | exact Nat.le_of_ble_eq_true rfl) only [go_sem, ↓mwp_block, simprocAttr])
      exact hK _ _ ⟨⟨0, by rw [dcd_false (hbad fun h => c1 h.1)], fun h => (hbad (fun h => c1 h.1) h).elim⟩, S.fr⟩
    rw [dcd_true c1]
    by_cases c2 : x.cat < 0
    · (try simp (maxSteps := 1000000) (disch := first | omega | assumption | exact Nat.le_of_ble_eq_true rfl) only [go_sem, ↓mwp_block, simprocAttr, F, c2])
      exact hK _ _ ⟨⟨0, by rw [dcd_false (hbad fun h => by have := h.2.1; omega)], fun h => (hbad (fun h => by have := h.2.1; omega) h).elim⟩, S.fr⟩
    by_cases c3 : k ≤ x.cat
    · (try simp (maxSteps := 1000000) (disch := first | omega | assumption | exact Nat.le_of_ble_eq_true rfl) only [go_sem, ↓mwp_block, simprocAttr, F, c2, e1, c3])
      exact hK _ _ ⟨⟨0, by rw [dcd_false (hbad fun h => by have := h.2.2; omega)], fun h => (hbad (fun h => by have := h.2.2; omega) h).elim⟩, S.fr⟩
    have hx : okLine k x := ⟨c1, by omega, by omega⟩
    have hxb := line_bound hx
    have w1 : IntKind.i64.wrap (cntOf (o.ls.take i) + x.count) = cntOf (o.ls.take i) + x.count := by
      have := c1.2.2
      exact wrap_i64 (by omega) (by omega)
    have w2 : IntKind.i64.wrap (x.price * x.count) = x.price * x.count := wrap_i64 (by omega) (by omega)
    have w3 : IntKind.i64.wrap (allOf (o.ls.take i) + x.price * x.count) = allOf (o.ls.take i) + x.price * x.count := wrap_i64 (by omega) (by omega)
    (try simp (maxSteps := 1000000) (disch := first | omega | assumption | exact Nat.le_of_ble_eq_true rfl) only [go_sem, ↓mwp_block, simprocAttr, F, c2, e1, c3, e6, e7, w1, w2, w3, e51])
    refine hJ _ _ ?_ ?_
    · (try simp (maxSteps := 1000000) (disch := first | omega | assumption | exact Nat.le_of_ble_eq_true rfl) only [go_sem, ↓mwp_block, simprocAttr, e1, e2, e49, e50, hA])
      exact ⟨i + 1, rfl, by omega, htk hx, by rw [hs2], by rw [hs1], S.tl⟩
    · (try simp (maxSteps := 1000000) (disch := first | omega | assumption | exact Nat.le_of_ble_eq_true rfl) only [go_sem, ↓mwp_block, simprocAttr, e51])
      omega
  · obtain rfl : i = o.ls.length := by omega
    rw [List.take_length] at hok e6 e7
    ((try clear F); have F := S.all; (try simp only [all_cons, all_nil, says_cell, and_true] at F))
    (try simp (maxSteps := 1000000) (disch := first | omega | assumption | exact Nat.le_of_ble_eq_true rfl) only [go_sem, ↓mwp_block, simprocAttr])
    refine draw_eq ?_
    (try simp (maxSteps := 1000000) (disch := first | omega | assumption | exact Nat.le_of_ble_eq_true rfl) only [go_sem, ↓mwp_block, simprocAttr, e2, e6, e7, F, Odr.enc])
    refine hK _ _ ⟨⟨_, congrArg (fun b => Value.tuple #[.int .i64 (cntOf o.ls), .bool b]) (congrArg dcd (propext ⟨fun h => ⟨hhead, hok, h⟩, fun h => h.2.2⟩)), fun _ => rfl⟩, S.fr⟩
end Go.Proofs.YtblalmgahfbalaaGreat.MX
