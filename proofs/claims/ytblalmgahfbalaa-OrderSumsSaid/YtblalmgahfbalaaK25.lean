/- Texts in one file: Od11. -/
import Derived.Test.YtblalmgahfbalaaK24

/- Orders: the law OrderSums. -/
namespace Go.Proofs.Ytblalmgahfbalaa.MX
open Go Go.Proofs
set_option linter.unusedSimpArgs false
set_option linter.unusedVariables false
set_option maxHeartbeats 8000000
theorem OrderSums_ok (C : Cfg) (h0 : Heap) (hC : C.ok h0) :
    CallsH Try.prog 4 [.agg C.enc.toArray] h0 fun v h' => v = .bool true ∧ Fr h0 h' [] := by
  obtain ⟨r, w⟩ := hC
  have S := St.nil h0
  have r' : ∀ {l : List HP} (h' : Heap), St h0 h' l → C.rd h' := fun h' S => r.fr S.fr
  (refine enterK c_recouplaw10_OrderSums (Nat.le_of_ble_eq_true rfl) fun K hK => ?_; (try simp (maxSteps := 1000000) (disch := first | omega | assumption | exact Nat.le_of_ble_eq_true rfl) only [go_sem, ↓mwp_block, simprocAttr, ir_recouplaw10_OrderSums]))
  (refine st_alloc S ?_; clear S; intro g h S; (try simp only [splice_cons, splice_nil, List.set_cons_zero, List.set_cons_succ, Nat.zero_add, Nat.reduceAdd, List.cons_append, List.nil_append] at S); ((try clear F); have F := S.all; (try simp only [all_cons, all_nil, says_cell, and_true] at F)))
  (try simp (maxSteps := 1000000) (disch := first | omega | assumption | exact Nat.le_of_ble_eq_true rfl) only [go_sem, ↓mwp_block, simprocAttr])
  refine call_intro (awake10_ok _) ?_
  rintro _ h ⟨rfl, f1⟩
  have S := S.frame f1
  ((try clear F); have F := S.all; (try simp only [all_cons, all_nil, says_cell, and_true] at F))
  (try simp (maxSteps := 1000000) (disch := first | omega | assumption | exact Nat.le_of_ble_eq_true rfl) only [go_sem, ↓mwp_block, simprocAttr, F])
  refine call_intro (Few_ok C (r' _ S) w) ?_
  rintro _ h ⟨rfl, f2⟩
  have S := S.frame f2
  clear f1 f2
  by_cases hfew : fewC C
  case neg =>
    rw [dcd_false hfew]
    (try simp (maxSteps := 1000000) (disch := first | omega | assumption | exact Nat.le_of_ble_eq_true rfl) only [go_sem, ↓mwp_block, simprocAttr])
    refine call_intro (awake10_ok _) ?_
    rintro _ h' ⟨rfl, f2⟩
    (try simp (maxSteps := 1000000) (disch := first | omega | assumption | exact Nat.le_of_ble_eq_true rfl) only [go_sem, ↓mwp_block, simprocAttr])
    exact hK _ _ ⟨rfl, (S.frame f2).fr⟩
  rw [dcd_true hfew]
  obtain ⟨l1, l2, l3, l4⟩ := hfew
  have l4' : ∀ o ∈ C.os, o.ls.length < 1000000 := fun o ho => by have := l4 o ho; omega
  ((try clear F); have F := S.all; (try simp only [all_cons, all_nil, says_cell, and_true] at F))
  (try simp (maxSteps := 1000000) (disch := first | omega | assumption | exact Nat.le_of_ble_eq_true rfl) only [go_sem, ↓mwp_block, simprocAttr, F])
  refine call_intro (OUnits_ok C r' w (by omega) (by omega) (by omega) l4' S) ?_
  clear S F
  rintro _ h (⟨hok, rfl, S⟩ | ⟨hok, s, rfl, S⟩)
  · (try simp (maxSteps := 1000000) (disch := first | omega | assumption | exact Nat.le_of_ble_eq_true rfl) only [go_sem, ↓mwp_block, simprocAttr])
    exact hK _ _ ⟨rfl, S.fr⟩
  obtain ⟨A, c, rfl⟩ := S.sl
  have hul := (unitsAll_len hok).2
  have hnn := units_nn hok
  have hsa := fun i hi => sumAt_units hok i hi
  have hOk := hok.okO
  have hsb := fun (i : Int) (k : Nat) => sumAt_bound i (L := (unitsAll C).take k) fun u hu => hnn u (List.mem_of_mem_take hu)
  have hss := fun (i : Int) {k : Nat} hk => sumAt_snoc i (L := unitsAll C) (k := k) hk
  obtain ⟨n, hn⟩ : ∃ n, (unitsAll C).length = n := ⟨_, rfl⟩
  rw [hn] at S hul ⊢
  generalize unitsAll C = L at *
  ((try clear F); have F := S.all; (try simp only [all_cons, all_nil, says_cell, and_true] at F))
  (try simp (maxSteps := 1000000) (disch := first | omega | assumption | exact Nat.le_of_ble_eq_true rfl) only [go_sem, ↓mwp_block, simprocAttr, F, Cfg.enc])
  refine loop_intro (fun ρ h' => ρ 1 = .pointer (some ⟨g, 0, none⟩) ∧ ρ 3 = .slice A n c ∧ ρ 31 = .int .i64 C.os.length ∧ ∃ i : Nat, ρ 32 = .int .i64 i ∧ i ≤ C.os.length ∧
    St h0 h' [ownA Unt.enc 4 37 (.slice A n c) L, cellA g C.enc 26]) (fun ρ _ => C.os.length - (iv (ρ 32)).toNat) ?_ ?_
  · (try simp (maxSteps := 1000000) (disch := first | omega | assumption | exact Nat.le_of_ble_eq_true rfl) only [go_sem, ↓mwp_block, simprocAttr])
    exact ⟨0, rfl, by omega, S⟩
  clear S F
  rintro ρ h J hJ ⟨e1, e3, e31, i, e32, hi, S⟩
  (try simp (maxSteps := 1000000) (disch := first | omega | assumption | exact Nat.le_of_ble_eq_true rfl) only [go_sem, ↓mwp_block, simprocAttr, e31, e32])
  refine cond_dec (fun hlt => ?_) (fun hlt => ?_)
  · have hil : i < C.os.length := by omega
    have hmem := List.getElem_mem hil
    obtain ⟨b, off, hA, hr1⟩ := (r' _ S).os.at hil
    have hrl := fun {h'} {l' : List HP} (S : St h0 h' l') => (r' _ S).ls _ hmem
    have hO := hOk _ hmem
    have hsi := hsa i hil
    have ho20 := l4 _ hmem
    generalize C.os[i] = o at *
    obtain ⟨kk, hlk⟩ := hO.ls
    have hab := all_bound hlk
    have hd := hO.disc
    have ht := hO.tax
    have hsh := hO.ship
    have ho8 := hO.n1
    unfold okPrice at hd ht hsh
    ((try clear F); have F := S.all; (try simp only [all_cons, all_nil, says_cell, and_true] at F))
    (try simp (maxSteps := 1000000) (disch := first | omega | assumption | exact Nat.le_of_ble_eq_true rfl) only [go_sem, ↓mwp_block, simprocAttr, e1, e32, F, Cfg.enc, hA, hr1])
    (refine st_alloc S ?_; clear S; intro q h S; (try simp only [splice_cons, splice_nil, List.set_cons_zero, List.set_cons_succ, Nat.zero_add, Nat.reduceAdd, List.cons_append, List.nil_append] at S); ((try clear F); have F := S.all; (try simp only [all_cons, all_nil, says_cell, and_true] at F)))
    (try simp (maxSteps := 1000000) (disch := first | omega | assumption | exact Nat.le_of_ble_eq_true rfl) only [go_sem, ↓mwp_block, simprocAttr, F, Odr.enc])
    (refine st_store (by first | exact S | exact S.p1 | exact S.p2 | exact S.p3 | exact S.p4 | exact S.p5 | exact S.p6 | exact S.p7 | exact S.p8 | exact S.p9 | exact S.p10 | exact S.p11) (by rfl) (by rfl) (Nat.le_of_ble_eq_true rfl) ?_; clear S; intro h S; (try simp only [splice_cons, splice_nil, List.set_cons_zero, List.set_cons_succ, Nat.zero_add, Nat.reduceAdd, List.cons_append, List.nil_append] at S); ((try clear F); have F := S.all; (try simp only [all_cons, all_nil, says_cell, and_true] at F)))
    have w1 : IntKind.i64.wrap (o.tax + o.ship) = o.tax + o.ship := wrap_i64 (by omega) (by omega)
    have w2 : IntKind.i64.wrap (o.tax + o.ship - o.disc) = o.tax + o.ship - o.disc := wrap_i64 (by omega) (by omega)
    (try simp (maxSteps := 1000000) (disch := first | omega | assumption | exact Nat.le_of_ble_eq_true rfl) only [go_sem, ↓mwp_block, simprocAttr, F, w1, w2])
    refine loop_intro (fun ρ' h' => ρ' 1 = ρ 1 ∧ ρ' 3 = ρ 3 ∧ ρ' 31 = ρ 31 ∧ ρ' 32 = ρ 32 ∧ ρ' 5 = .int .i64 i ∧ ρ' 6 = .pointer (some ⟨q, 0, none⟩) ∧ ρ' 50 = .int .i64 o.ls.length ∧ ∃ k : Nat, ρ' 51 = .int .i64 k ∧ k ≤ o.ls.length ∧ ρ' 7 = .int .i64 (o.tax + o.ship - o.disc + allOf (o.ls.take k)) ∧
      St h0 h' [cellA q o.enc 40, ownA Unt.enc 4 37 (.slice A n c) L, cellA g C.enc 26]) (fun ρ' _ => o.ls.length - (iv (ρ' 51)).toNat) ?_ ?_
    · (try simp (maxSteps := 1000000) (disch := first | omega | assumption | exact Nat.le_of_ble_eq_true rfl) only [go_sem, ↓mwp_block, simprocAttr])
      exact ⟨0, rfl, by omega, by simp [allOf], S⟩
    clear S F hr1
    rintro ρ' h J' hJ' ⟨q1, q3, q31, q32, q5, q6, q50, k, q51, hk, q7, S⟩
    (try simp (maxSteps := 1000000) (disch := first | omega | assumption | exact Nat.le_of_ble_eq_true rfl) only [go_sem, ↓mwp_block, simprocAttr, q50, q51])
    refine cond_dec (fun hlt2 => ?_) (fun hlt2 => ?_)
    · have hkl : k < o.ls.length := by omega
      obtain ⟨b2, off2, hA2, hr2⟩ := (hrl S).at hkl
      have hx := hlk _ (List.getElem_mem hkl)
      have hs3 := allOf_snoc hkl
      have hab2 := all_bound (ls := o.ls.take k) fun l hl => hlk l (List.mem_of_mem_take hl)
      have hlen2 : (o.ls.take k).length ≤ 8 := by rw [List.length_take]; omega
      generalize o.ls[k] = x at *
      have hxb := line_bound hx
      have hx2 := rd1_part hr2 2 (by omega)
      have hx3 := rd1_part hr2 3 (by omega)
      simp only [Lin.enc, List.getElem?_cons_zero, List.getElem?_cons_succ] at hx2 hx3
      obtain ⟨⟨_, _, hc0, hc1⟩, _⟩ := hx
      have v1 : IntKind.i64.wrap (x.price * x.count) = x.price * x.count := wrap_i64 (by omega) (by omega)
      have v2 : IntKind.i64.wrap (o.tax + o.ship - o.disc + allOf (o.ls.take k) + x.price * x.count) = o.tax + o.ship - o.disc + allOf (o.ls.take k) + x.price * x.count := wrap_i64 (by omega) (by omega)
      ((try clear F); have F := S.all; (try simp only [all_cons, all_nil, says_cell, and_true] at F))
      (try simp (maxSteps := 1000000) (disch := first | omega | assumption | exact Nat.le_of_ble_eq_true rfl) only [go_sem, ↓mwp_block, simprocAttr])
      refine draw_eq ?_
      (try simp (maxSteps := 1000000) (disch := first | omega | assumption | exact Nat.le_of_ble_eq_true rfl) only [go_sem, ↓mwp_block, simprocAttr, q7, q6, F, Odr.enc, q51, hA2, hx2, hx3, v1, v2])
      refine hJ' _ _ ?_ ?_
      · (try simp (maxSteps := 1000000) (disch := first | omega | assumption | exact Nat.le_of_ble_eq_true rfl) only [go_sem, ↓mwp_block, simprocAttr, q1, q3, q31, q32, q5, q6, q50])
        exact ⟨k + 1, rfl, by omega, by rw [hs3, ← Int.add_assoc], S⟩
      · (try simp (maxSteps := 1000000) (disch := first | omega | assumption | exact Nat.le_of_ble_eq_true rfl) only [go_sem, ↓mwp_block, simprocAttr, q51])
        omega
    obtain rfl : k = o.ls.length := by omega
    rw [List.take_length] at q7
    clear hJ'
    (try simp (maxSteps := 1000000) (disch := first | omega | assumption | exact Nat.le_of_ble_eq_true rfl) only [go_sem, ↓mwp_block, simprocAttr, q3, e3])
    refine loop_intro (fun ρ'' h' => h' = h ∧ ρ'' 1 = ρ 1 ∧ ρ'' 3 = ρ 3 ∧ ρ'' 31 = ρ 31 ∧ ρ'' 32 = ρ 32 ∧ ρ'' 5 = .int .i64 i ∧ ρ'' 71 = .int .i64 n ∧ ∃ k : Nat, ρ'' 72 = .int .i64 k ∧ k ≤ n ∧ ρ'' 7 = .int .i64 (o.tax + o.ship - o.disc + allOf o.ls - sumAt i (L.take k))) (fun ρ'' _ => n - (iv (ρ'' 72)).toNat) ?_ ?_
    · (try simp (maxSteps := 1000000) (disch := first | omega | assumption | exact Nat.le_of_ble_eq_true rfl) only [go_sem, ↓mwp_block, simprocAttr, q1, q3, e3, q31, q32, q5])
      exact ⟨0, rfl, by omega, by rw [q7]; simp [sumAt]⟩
    clear q1 q3 q31 q32 q5 q6 q50 q51 q7
    rintro ρ'' h' J'' hJ'' ⟨rfl, q1, q3, q31, q32, q5, q71, k, q72, hk, q7⟩
    (try simp (maxSteps := 1000000) (disch := first | omega | assumption | exact Nat.le_of_ble_eq_true rfl) only [go_sem, ↓mwp_block, simprocAttr, q71, q72])
    refine cond_dec (fun hlt3 => ?_) (fun hlt3 => ?_)
    · have hkn : k < n := by omega
      have hkL : k < L.length := by omega
      have S1 := S.p1
      obtain ⟨bu, rfl⟩ := S1.ownAt (by omega)
      have hu0 := own_part Unt.enc_len S1 (i := k) (j := 0) hkL (by omega)
      have hu3 := own_part Unt.enc_len S1 (i := k) (j := 3) hkL (by omega)
      have hsk := hss i hkL
      have hsn := hsb i (k + 1)
      have hs0 := hsb i k
      have hun := hnn _ (List.getElem_mem hkL)
      rw [hsk] at hsn
      generalize L[k] = u at *
      simp only [Unt.enc, List.getElem?_cons_zero, List.getElem?_cons_succ, Nat.add_zero] at hu0 hu3
      have hlt4 : (L.take k).length ≤ 200 := by rw [List.length_take]; omega
      by_cases c1 : u.ord = i
      · rw [if_pos c1] at hsk hsn
        have v3 : IntKind.i64.wrap (o.tax + o.ship - o.disc + allOf o.ls - sumAt i (L.take k) - u.share) = o.tax + o.ship - o.disc + allOf o.ls - sumAt i (L.take k) - u.share := wrap_i64 (by omega) (by omega)
        (try simp (maxSteps := 1000000) (disch := first | omega | assumption | exact Nat.le_of_ble_eq_true rfl) only [go_sem, ↓mwp_block, simprocAttr, q3, e3, q72, hu0, q5, c1, q7, hu3, v3])
        refine hJ'' _ _ ?_ ?_
        · (try simp (maxSteps := 1000000) (disch := first | omega | assumption | exact Nat.le_of_ble_eq_true rfl) only [go_sem, ↓mwp_block, simprocAttr, q1, q3, q31, q32, q5, q71])
          exact ⟨k + 1, rfl, by omega, by rw [hsk, Int.sub_sub]⟩
        · (try simp (maxSteps := 1000000) (disch := first | omega | assumption | exact Nat.le_of_ble_eq_true rfl) only [go_sem, ↓mwp_block, simprocAttr, q72])
          omega
      · rw [if_neg c1, Int.add_zero] at hsk
        (try simp (maxSteps := 1000000) (disch := first | omega | assumption | exact Nat.le_of_ble_eq_true rfl) only [go_sem, ↓mwp_block, simprocAttr, q3, e3, q72, hu0, q5, c1])
        refine hJ'' _ _ ?_ ?_
        · (try simp (maxSteps := 1000000) (disch := first | omega | assumption | exact Nat.le_of_ble_eq_true rfl) only [go_sem, ↓mwp_block, simprocAttr, q1, q3, q31, q32, q5, q71])
          exact ⟨k + 1, rfl, by omega, by rw [hsk]; exact q7⟩
        · (try simp (maxSteps := 1000000) (disch := first | omega | assumption | exact Nat.le_of_ble_eq_true rfl) only [go_sem, ↓mwp_block, simprocAttr, q72])
          omega
    obtain rfl : k = n := by omega
    rw [List.take_of_length_le (by omega), hsi] at q7
    have hz : o.tax + o.ship - o.disc + allOf o.ls - (allOf o.ls - o.disc + o.tax + o.ship) = 0 := by omega
    rw [hz] at q7
    (try simp (maxSteps := 1000000) (disch := first | omega | assumption | exact Nat.le_of_ble_eq_true rfl) only [go_sem, ↓mwp_block, simprocAttr, q7, q32, e32])
    refine hJ _ _ ?_ ?_
    · (try simp (maxSteps := 1000000) (disch := first | omega | assumption | exact Nat.le_of_ble_eq_true rfl) only [go_sem, ↓mwp_block, simprocAttr, q1, e1, q3, e3, q31, e31])
      exact ⟨i + 1, rfl, by omega, S.tl⟩
    · (try simp (maxSteps := 1000000) (disch := first | omega | assumption | exact Nat.le_of_ble_eq_true rfl) only [go_sem, ↓mwp_block, simprocAttr, e32])
      omega
  · clear hJ
    (try simp (maxSteps := 1000000) (disch := first | omega | assumption | exact Nat.le_of_ble_eq_true rfl) only [go_sem, ↓mwp_block, simprocAttr, e3])
    refine loop_intro (fun ρ h' => h' = h ∧ ρ 3 = .slice A n c ∧ ρ 94 = .int .i64 n ∧ ∃ k : Nat, ρ 95 = .int .i64 k ∧ k ≤ n) (fun ρ _ => n - (iv (ρ 95)).toNat) ?_ ?_
    · (try simp (maxSteps := 1000000) (disch := first | omega | assumption | exact Nat.le_of_ble_eq_true rfl) only [go_sem, ↓mwp_block, simprocAttr, e3])
      exact ⟨0, rfl, by omega⟩
    clear e1 e3 e31 e32
    rintro ρ h' J hJ ⟨rfl, e3, e94, k, e95, hk⟩
    (try simp (maxSteps := 1000000) (disch := first | omega | assumption | exact Nat.le_of_ble_eq_true rfl) only [go_sem, ↓mwp_block, simprocAttr, e94, e95])
    refine cond_dec (fun hlt2 => ?_) (fun hlt2 => ?_)
    · have hkn : k < n := by omega
      have hkL : k < L.length := by omega
      obtain ⟨bu, rfl⟩ := S.ownAt (by omega)
      have hu3 := own_part Unt.enc_len S (i := k) (j := 3) hkL (by omega)
      have hun := hnn _ (List.getElem_mem hkL)
      generalize L[k] = u at *
      simp only [Unt.enc, List.getElem?_cons_zero, List.getElem?_cons_succ, Nat.add_zero] at hu3
      have c1 : ¬ u.share < 0 := by omega
      (try simp (maxSteps := 1000000) (disch := first | omega | assumption | exact Nat.le_of_ble_eq_true rfl) only [go_sem, ↓mwp_block, simprocAttr, e3, e95, hu3, c1])
      refine hJ _ _ ?_ ?_
      · (try simp (maxSteps := 1000000) (disch := first | omega | assumption | exact Nat.le_of_ble_eq_true rfl) only [go_sem, ↓mwp_block, simprocAttr, e3, e94])
        exact ⟨k + 1, rfl, by omega⟩
      · (try simp (maxSteps := 1000000) (disch := first | omega | assumption | exact Nat.le_of_ble_eq_true rfl) only [go_sem, ↓mwp_block, simprocAttr, e95])
        omega
    · (try simp (maxSteps := 1000000) (disch := first | omega | assumption | exact Nat.le_of_ble_eq_true rfl) only [go_sem, ↓mwp_block, simprocAttr])
      exact hK _ _ ⟨rfl, S.fr⟩
end Go.Proofs.Ytblalmgahfbalaa.MX
