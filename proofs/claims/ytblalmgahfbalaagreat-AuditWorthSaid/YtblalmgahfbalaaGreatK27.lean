/- Texts in one file: Sk1, Od15, Od12, Od16, Od17, Od18. -/
import Derived.Test.YtblalmgahfbalaaGreatK16
import Derived.Test.YtblalmgahfbalaaGreatK22
import Derived.Test.YtblalmgahfbalaaGreatK26
import Derived.Test.YtblalmgahfbalaaGreatK24

/- The stock: a thing that stands in a heap; what looks at it; New, Clone. -/
namespace Go.Proofs.YtblalmgahfbalaaGreat.MX
open Go Go.Proofs
set_option linter.unusedSimpArgs false
set_option linter.unusedVariables false
set_option maxHeartbeats 4000000
/-- Where a unit is. -/
structure KU where
  place : Int
  sku : Int
  recv : Bool
  grad : Bool
def KU.enc (x : KU) : List Value := [.int .i64 x.place, .int .i64 x.sku, .bool x.recv, .bool x.grad]
theorem KU.enc_len (x : KU) : x.enc.length = 4 := rfl
theorem KU.enc_plain (x : KU) : plainCells x.enc = true := rfl
def stockA (k : Nat) (K : List KU) : HP := exA fun s => starA (cellA k [s] 120) (ownA KU.enc 4 122 s K)
def placeK (K : List KU) (n : Int) : Int := if 0 ≤ n then ((K[n.toNat]?).map KU.place).getD (-1) else -1
def seenK (K : List KU) (n : Int) : Bool × Bool := if 0 ≤ n then ((K[n.toNat]?).map fun u => (u.recv, u.grad)).getD (false, false) else (false, false)
def stkOf (sk at_ : List Int) : List KU := List.zipWith (fun s p => ⟨p, s, false, false⟩) sk at_
def okAt (at_ : List Int) : Prop := ∀ p ∈ at_, 0 ≤ p ∧ p < 9
section
variable {h0 h : Heap} {l : List HP} {k : Nat} {K : List KU}
theorem St.stk : St h0 h (stockA k K :: l) ↔ ∃ s, St h0 h (cellA k [s] 120 :: ownA KU.enc 4 122 s K :: l) := by
  rw [stockA, St.ex]
  exact exists_congr fun s => St.star
theorem has_ok (n : Int) (S : St h0 h (stockA k K :: l)) : CallsH Tryz.prog 60 [.pointer (some ⟨k, 0, none⟩), .int .i64 n] h fun v h' => v = .bool (dcd (0 ≤ n ∧ n < K.length)) ∧ h' = h := by
  obtain ⟨s, S⟩ := St.stk.1 S
  obtain ⟨A, c, rfl⟩ := S.p1.sl
  ((try clear F); have F := S.all; (try simp only [all_cons, all_nil, says_cell, and_true] at F))
  by_cases h1 : 0 ≤ n
  · by_cases h2 : n < K.length
    · (refine enterK c_stock_Stock_has (Nat.le_of_ble_eq_true rfl) fun K hK => ?_; (try simp (maxSteps := 1000000) (disch := first | omega | assumption | exact Nat.le_of_ble_eq_true rfl) only [go_sem, ↓mwp_block, simprocAttr, ir_stock_Stock_has]))
      (try simp (maxSteps := 1000000) (disch := first | omega | assumption | exact Nat.le_of_ble_eq_true rfl) only [go_sem, ↓mwp_block, simprocAttr, F, h1, h2])
      exact hK _ _ ⟨by rw [dcd_true ⟨h1, h2⟩], rfl⟩
    · (refine enterK c_stock_Stock_has (Nat.le_of_ble_eq_true rfl) fun K hK => ?_; (try simp (maxSteps := 1000000) (disch := first | omega | assumption | exact Nat.le_of_ble_eq_true rfl) only [go_sem, ↓mwp_block, simprocAttr, ir_stock_Stock_has]))
      (try simp (maxSteps := 1000000) (disch := first | omega | assumption | exact Nat.le_of_ble_eq_true rfl) only [go_sem, ↓mwp_block, simprocAttr, F, h1, h2])
      exact hK _ _ ⟨by rw [dcd_false fun h => h2 h.2], rfl⟩
  · (refine enterK c_stock_Stock_has (Nat.le_of_ble_eq_true rfl) fun K hK => ?_; (try simp (maxSteps := 1000000) (disch := first | omega | assumption | exact Nat.le_of_ble_eq_true rfl) only [go_sem, ↓mwp_block, simprocAttr, ir_stock_Stock_has]))
    (try simp (maxSteps := 1000000) (disch := first | omega | assumption | exact Nat.le_of_ble_eq_true rfl) only [go_sem, ↓mwp_block, simprocAttr, F, h1])
    exact hK _ _ ⟨by rw [dcd_false fun h => h1 h.1], rfl⟩
theorem PlaceK_ok (n : Int) (S : St h0 h (stockA k K :: l)) : CallsH Tryz.prog 38 [.pointer (some ⟨k, 0, none⟩), .int .i64 n] h fun v h' => v = .int .i64 (placeK K n) ∧ h' = h := by
  by_cases h1 : 0 ≤ n ∧ n < K.length
  · obtain ⟨i, rfl⟩ := Int.eq_ofNat_of_zero_le h1.1
    have hi : i < K.length := by omega
    (refine enterK c_stock_Stock_Place (Nat.le_of_ble_eq_true rfl) fun K hK => ?_; (try simp (maxSteps := 1000000) (disch := first | omega | assumption | exact Nat.le_of_ble_eq_true rfl) only [go_sem, ↓mwp_block, simprocAttr, ir_stock_Stock_Place]))
    refine call_intro (has_ok _ S) ?_
    rintro _ _ ⟨rfl, rfl⟩
    rw [dcd_true h1]
    obtain ⟨s, S⟩ := St.stk.1 S
    obtain ⟨A, c, rfl⟩ := S.p1.sl
    obtain ⟨b, rfl⟩ := S.p1.ownAt (by omega)
    have hp := own_part KU.enc_len S.p1 (i := i) (j := 0) hi (by omega)
    simp only [KU.enc, List.getElem?_cons_zero, Nat.add_zero] at hp
    ((try clear F); have F := S.all; (try simp only [all_cons, all_nil, says_cell, and_true] at F))
    (try simp (maxSteps := 1000000) (disch := first | omega | assumption | exact Nat.le_of_ble_eq_true rfl) only [go_sem, ↓mwp_block, simprocAttr, F, hp])
    refine hK _ _ ⟨?_, rfl⟩
    rw [placeK, if_pos h1.1, Int.toNat_natCast, List.getElem?_eq_getElem hi]
    rfl
  · (refine enterK c_stock_Stock_Place (Nat.le_of_ble_eq_true rfl) fun K hK => ?_; (try simp (maxSteps := 1000000) (disch := first | omega | assumption | exact Nat.le_of_ble_eq_true rfl) only [go_sem, ↓mwp_block, simprocAttr, ir_stock_Stock_Place]))
    refine call_intro (has_ok _ S) ?_
    rintro _ _ ⟨rfl, rfl⟩
    rw [dcd_false h1]
    (try simp (maxSteps := 1000000) (disch := first | omega | assumption | exact Nat.le_of_ble_eq_true rfl) only [go_sem, ↓mwp_block, simprocAttr])
    refine hK _ _ ⟨?_, rfl⟩
    rw [placeK]
    split
    · rw [List.getElem?_eq_none (by omega)]; rfl
    · rfl
theorem SeenK_ok (n : Int) (S : St h0 h (stockA k K :: l)) : CallsH Tryz.prog 37 [.pointer (some ⟨k, 0, none⟩), .int .i64 n] h fun v h' => v = .tuple #[.bool (seenK K n).1, .bool (seenK K n).2] ∧ h' = h := by
  by_cases h1 : 0 ≤ n ∧ n < K.length
  · obtain ⟨i, rfl⟩ := Int.eq_ofNat_of_zero_le h1.1
    have hi : i < K.length := by omega
    (refine enterK c_stock_Stock_Seen (Nat.le_of_ble_eq_true rfl) fun K hK => ?_; (try simp (maxSteps := 1000000) (disch := first | omega | assumption | exact Nat.le_of_ble_eq_true rfl) only [go_sem, ↓mwp_block, simprocAttr, ir_stock_Stock_Seen]))
    refine call_intro (has_ok _ S) ?_
    rintro _ _ ⟨rfl, rfl⟩
    rw [dcd_true h1]
    obtain ⟨s, S⟩ := St.stk.1 S
    obtain ⟨A, c, rfl⟩ := S.p1.sl
    obtain ⟨b, rfl⟩ := S.p1.ownAt (by omega)
    have hp := own_part KU.enc_len S.p1 (i := i) (j := 2) hi (by omega)
    have hq := own_part KU.enc_len S.p1 (i := i) (j := 3) hi (by omega)
    simp only [KU.enc, List.getElem?_cons_zero, List.getElem?_cons_succ] at hp hq
    ((try clear F); have F := S.all; (try simp only [all_cons, all_nil, says_cell, and_true] at F))
    (try simp (maxSteps := 1000000) (disch := first | omega | assumption | exact Nat.le_of_ble_eq_true rfl) only [go_sem, ↓mwp_block, simprocAttr])
    refine draw_eq ?_
    (try simp (maxSteps := 1000000) (disch := first | omega | assumption | exact Nat.le_of_ble_eq_true rfl) only [go_sem, ↓mwp_block, simprocAttr, F, hp, hq])
    refine hK _ _ ⟨?_, rfl⟩
    rw [seenK, if_pos h1.1, Int.toNat_natCast, List.getElem?_eq_getElem hi]
    rfl
  · (refine enterK c_stock_Stock_Seen (Nat.le_of_ble_eq_true rfl) fun K hK => ?_; (try simp (maxSteps := 1000000) (disch := first | omega | assumption | exact Nat.le_of_ble_eq_true rfl) only [go_sem, ↓mwp_block, simprocAttr, ir_stock_Stock_Seen]))
    refine call_intro (has_ok _ S) ?_
    rintro _ _ ⟨rfl, rfl⟩
    rw [dcd_false h1]
    (try simp (maxSteps := 1000000) (disch := first | omega | assumption | exact Nat.le_of_ble_eq_true rfl) only [go_sem, ↓mwp_block, simprocAttr])
    refine hK _ _ ⟨?_, rfl⟩
    rw [seenK]
    split
    · rw [List.getElem?_eq_none (by omega)]; rfl
    · rfl
theorem CloneKU_ok {A : Option Addr} {n c : Nat} {xs : List KU} (S : St h0 h l) (ha : Arr KU.enc 4 h A xs) (hn : n = xs.length) (hl : xs.length < 1000000000) :
    CallsH Tryz.prog 76 [.slice A n c] h fun v h' => St h0 h' (ownA KU.enc 4 122 v xs :: l) :=
  (clone_ok (T := 122) (sz := 4) (bytes := 24) c_slices_Clone_stock_unit_stock_unit KU.enc_len (by omega) KU.enc_plain rfl ha hn (arr_none ha) (by omega) (by omega)).mono fun v h' ⟨ho, hf, _⟩ => S.ownNew hf ho
theorem CloneK_ok (S : St h0 h (stockA k K :: l)) (hl : K.length < 1000000) : CallsH Tryz.prog 59 [.pointer (some ⟨k, 0, none⟩)] h fun v h' => ∃ p, v = .pointer (some ⟨p, 0, none⟩) ∧ St h0 h' (stockA p K :: stockA k K :: l) := by
  obtain ⟨s, S⟩ := St.stk.1 S
  obtain ⟨A, c, rfl⟩ := S.p1.sl
  ((try clear F); have F := S.all; (try simp only [all_cons, all_nil, says_cell, and_true] at F))
  (refine enterK c_stock_Stock_Clone (Nat.le_of_ble_eq_true rfl) fun K hK => ?_; (try simp (maxSteps := 1000000) (disch := first | omega | assumption | exact Nat.le_of_ble_eq_true rfl) only [go_sem, ↓mwp_block, simprocAttr, ir_stock_Stock_Clone]))
  (try simp (maxSteps := 1000000) (disch := first | omega | assumption | exact Nat.le_of_ble_eq_true rfl) only [go_sem, ↓mwp_block, simprocAttr, F])
  refine call_intro (CloneKU_ok S (S.p1.arr KU.enc_len) rfl (by omega)) ?_
  clear S F
  intro v h S
  obtain ⟨B, d, rfl⟩ := S.sl
  (try simp (maxSteps := 1000000) (disch := first | omega | assumption | exact Nat.le_of_ble_eq_true rfl) only [go_sem, ↓mwp_block, simprocAttr])
  (refine st_alloc S ?_; clear S; intro p h S; (try simp only [splice_cons, splice_nil, List.set_cons_zero, List.set_cons_succ, Nat.zero_add, Nat.reduceAdd, List.cons_append, List.nil_append] at S); ((try clear F); have F := S.all; (try simp only [all_cons, all_nil, says_cell, and_true] at F)))
  (try simp (maxSteps := 1000000) (disch := first | omega | assumption | exact Nat.le_of_ble_eq_true rfl) only [go_sem, ↓mwp_block, simprocAttr])
  exact hK _ _ ⟨p, rfl, St.stk.2 ⟨_, (St.stk.2 ⟨_, S.p2.p3.p1⟩).p1.p2.p1⟩⟩
theorem NewK_ok {A B : Option Addr} {c d : Nat} {sk at_ : List Int} (S : St h0 h l) (ha : ∀ h', St h0 h' l → Arr zEnc 1 h' A sk) (hb : ∀ h', St h0 h' l → Arr zEnc 1 h' B at_) (l1 : sk.length < 1000000) (l2 : at_.length < 1000000) :
    CallsH Tryz.prog 27 [.slice A sk.length c, .slice B at_.length d] h fun v h' => (¬ (sk.length = at_.length ∧ sk.length ≤ 200 ∧ okAt at_) ∧ v = .tuple #[.pointer none, .int .i64 1] ∧ St h0 h' l) ∨
      ((sk.length = at_.length ∧ sk.length ≤ 200 ∧ okAt at_) ∧ ∃ k, v = .tuple #[.pointer (some ⟨k, 0, none⟩), .int .i64 0] ∧ St h0 h' (stockA k (stkOf sk at_) :: l)) := by
  by_cases h1 : (sk.length : Int) = at_.length
  case neg =>
    (refine enterK c_stock_New (Nat.le_of_ble_eq_true rfl) fun K hK => ?_; (try simp (maxSteps := 1000000) (disch := first | omega | assumption | exact Nat.le_of_ble_eq_true rfl) only [go_sem, ↓mwp_block, simprocAttr, ir_stock_New]))
    (try simp (maxSteps := 1000000) (disch := first | omega | assumption | exact Nat.le_of_ble_eq_true rfl) only [go_sem, ↓mwp_block, simprocAttr])
    exact hK _ _ (.inl ⟨fun h => h1 (by omega), rfl, S⟩)
  by_cases h2 : 200 < (sk.length : Int)
  · (refine enterK c_stock_New (Nat.le_of_ble_eq_true rfl) fun K hK => ?_; (try simp (maxSteps := 1000000) (disch := first | omega | assumption | exact Nat.le_of_ble_eq_true rfl) only [go_sem, ↓mwp_block, simprocAttr, ir_stock_New]))
    (try simp (maxSteps := 1000000) (disch := first | omega | assumption | exact Nat.le_of_ble_eq_true rfl) only [go_sem, ↓mwp_block, simprocAttr])
    exact hK _ _ (.inl ⟨fun h => by omega, rfl, S⟩)
  (refine enterK c_stock_New (Nat.le_of_ble_eq_true rfl) fun K hK => ?_; (try simp (maxSteps := 1000000) (disch := first | omega | assumption | exact Nat.le_of_ble_eq_true rfl) only [go_sem, ↓mwp_block, simprocAttr, ir_stock_New]))
  (try simp (maxSteps := 1000000) (disch := first | omega | assumption | exact Nat.le_of_ble_eq_true rfl) only [go_sem, ↓mwp_block, simprocAttr])
  (refine st_alloc S ?_; clear S; intro k h S; (try simp only [splice_cons, splice_nil, List.set_cons_zero, List.set_cons_succ, Nat.zero_add, Nat.reduceAdd, List.cons_append, List.nil_append] at S); ((try clear F); have F := S.all; (try simp only [all_cons, all_nil, says_cell, and_true] at F)))
  have S : St h0 h (ownA KU.enc 4 122 (.slice none 0 0) [] :: _) := S.nilS
  (try simp (maxSteps := 1000000) (disch := first | omega | assumption | exact Nat.le_of_ble_eq_true rfl) only [go_sem, ↓mwp_block, simprocAttr])
  refine loop_intro (fun ρ h' => ρ 0 = .slice A sk.length c ∧ ρ 6 = .pointer (some ⟨k, 0, none⟩) ∧ ρ 21 = .slice B at_.length d ∧ ρ 22 = .int .i64 at_.length ∧ ∃ i : Nat, ρ 23 = .int .i64 i ∧ i ≤ at_.length ∧ okAt (at_.take i) ∧ ∃ (E : Option Addr) (e : Nat),
    St h0 h' (ownA KU.enc 4 122 (.slice E (stkOf (sk.take i) (at_.take i)).length e) (stkOf (sk.take i) (at_.take i)) :: cellA k [.slice E (stkOf (sk.take i) (at_.take i)).length e] 120 :: l)) (fun ρ _ => at_.length - (iv (ρ 23)).toNat) ?_ ?_
  · (try simp (maxSteps := 1000000) (disch := first | omega | assumption | exact Nat.le_of_ble_eq_true rfl) only [go_sem, ↓mwp_block, simprocAttr])
    exact ⟨0, rfl, by omega, by simp [okAt], none, 0, S⟩
  clear S F
  rintro ρ h J hJ ⟨e0, e6, e21, e22, i, e23, hi, hok, E, e, S⟩
  (try simp (maxSteps := 1000000) (disch := first | omega | assumption | exact Nat.le_of_ble_eq_true rfl) only [go_sem, ↓mwp_block, simprocAttr, e22, e23])
  refine cond_dec (fun hlt => ?_) (fun hlt => ?_)
  · have hil : i < at_.length := by omega
    have hil2 : i < sk.length := by omega
    obtain ⟨b1, o1, rfl, q1⟩ := (hb _ S.tl.tl).at hil
    obtain ⟨b2, o2, rfl, q2⟩ := (ha _ S.tl.tl).at hil2
    have q1 := rd1_part0 q1 (by omega)
    have q2 := rd1_part0 q2 (by omega)
    simp only [zEnc, List.getElem?_cons_zero] at q1 q2
    have hmem := List.getElem_mem hil
    have hll : (stkOf (sk.take i) (at_.take i)).length = i := by
      rw [stkOf, List.length_zipWith, List.length_take, List.length_take]; omega
    have hs1 : stkOf (sk.take (i + 1)) (at_.take (i + 1)) = stkOf (sk.take i) (at_.take i) ++ [⟨at_[i], sk[i], false, false⟩] := by
      rw [List.take_succ_eq_append_getElem hil, List.take_succ_eq_append_getElem hil2, stkOf, List.zipWith_append (by rw [List.length_take, List.length_take]; omega)]
      rfl
    have htk : (0 ≤ at_[i] ∧ at_[i] < 9) → okAt (at_.take (i + 1)) := fun hx p hp => by
      rw [List.take_succ_eq_append_getElem hil] at hp
      rcases List.mem_append.1 hp with hp | hp
      · exact hok p hp
      · rw [List.mem_singleton] at hp; rw [hp]; exact hx
    have hbad : ¬ (0 ≤ at_[i] ∧ at_[i] < 9) → ¬ (sk.length = at_.length ∧ sk.length ≤ 200 ∧ okAt at_) := fun hn h => hn (h.2.2 _ hmem)
    have hq2 : ∀ {h' : Heap} {L : List HP}, St h0 h' (L ++ l) → rd1 h' (.pointer (some ⟨b2, o2 + i * 1, none⟩)) = some (.int .i64 sk[i]) := fun S' => by
      obtain ⟨b3, o3, hA, q3⟩ := (ha _ S'.dropL).at hil2
      cases hA
      have q3 := rd1_part0 q3 (by omega)
      simpa only [zEnc, List.getElem?_cons_zero] using q3
    generalize at_[i] = x at *
    generalize sk[i] = y at *
    by_cases c1 : x < 0
    · (try simp (maxSteps := 1000000) (disch := first | omega | assumption | exact Nat.le_of_ble_eq_true rfl) only [go_sem, ↓mwp_block, simprocAttr, e21, e23, q1, c1])
      exact hK _ _ (.inl ⟨hbad (by omega), rfl, S.tl.tl⟩)
    by_cases c2 : 9 ≤ x
    · (try simp (maxSteps := 1000000) (disch := first | omega | assumption | exact Nat.le_of_ble_eq_true rfl) only [go_sem, ↓mwp_block, simprocAttr, e21, e23, q1, c1, c2])
      exact hK _ _ (.inl ⟨hbad (by omega), rfl, S.tl.tl⟩)
    have hg0 := st_rd1 (off := 0) S.p1
    simp only [List.getElem?_cons_zero] at hg0
    generalize stkOf (sk.take i) (at_.take i) = W at *
    have hI : (fun h' => rd1 h' (.pointer (some ⟨k, 0, none⟩)) = some (.slice E W.length e) ∧ rd1 h' (.pointer (some ⟨b2, o2 + i * 1, none⟩)) = some (.int .i64 y)) h := ⟨hg0, hq2 (L := [_, _]) S⟩
    have rx : ∀ K t, readT (fun h' => rd1 h' (.pointer (some ⟨k, 0, none⟩)) = some (.slice E W.length e) ∧ rd1 h' (.pointer (some ⟨b2, o2 + i * 1, none⟩)) = some (.int .i64 y)) (fun h' => rd1 h' (.pointer (some ⟨k, 0, none⟩))) K t = K (.slice E W.length e) := fun K t => readT_I (fun h' hh => hh.1) h hI
    have ry : ∀ K t, readT (fun h' => rd1 h' (.pointer (some ⟨k, 0, none⟩)) = some (.slice E W.length e) ∧ rd1 h' (.pointer (some ⟨b2, o2 + i * 1, none⟩)) = some (.int .i64 y)) (fun h' => rd1 h' (.pointer (some ⟨b2, o2 + i * 1, none⟩))) K t = K (.int .i64 y) := fun K t => readT_I (fun h' hh => hh.2) h hI
    simp only [Nat.mul_one] at hI rx ry hq2
    (try simp (maxSteps := 1000000) (disch := first | omega | assumption | exact Nat.le_of_ble_eq_true rfl) only [go_sem, ↓mwp_block, simprocAttr, e21, e23, q1, c1, c2])
    refine draw_inv (fun h' => rd1 h' (.pointer (some ⟨k, 0, none⟩)) = some (.slice E W.length e) ∧ rd1 h' (.pointer (some ⟨b2, o2 + i, none⟩)) = some (.int .i64 y)) hI ?_
    (try simp (maxSteps := 1000000) (disch := first | omega | assumption | exact Nat.le_of_ble_eq_true rfl) only [go_sem, ↓mwp_block, simprocAttr, e0, e6, rx, ry, Nat.mul_one])
    (refine st_alloc S ?_; clear S; intro q h S; (try simp only [splice_cons, splice_nil, List.set_cons_zero, List.set_cons_succ, Nat.zero_add, Nat.reduceAdd, List.cons_append, List.nil_append] at S); ((try clear F); have F := S.all; (try simp only [all_cons, all_nil, says_cell, and_true] at F)))
    refine ⟨⟨st_rd1 (off := 0) S.p2, hq2 (L := [_, _, _]) S⟩, ?_⟩
    (try simp (maxSteps := 1000000) (disch := first | omega | assumption | exact Nat.le_of_ble_eq_true rfl) only [go_sem, ↓mwp_block, simprocAttr])
    refine st_append1 (bytes := 24) (x := (⟨x, y, false, false⟩ : KU)) KU.enc_len (by omega) KU.enc_plain rfl rfl S (by omega) (by omega) ?_
    clear S F
    intro v h S
    rw [← hs1] at S
    obtain ⟨E', e', rfl⟩ := S.sl
    (try simp (maxSteps := 1000000) (disch := first | omega | assumption | exact Nat.le_of_ble_eq_true rfl) only [go_sem, ↓mwp_block, simprocAttr])
    refine st_store S.p1 (by rfl) (by rfl) (Nat.le_of_ble_eq_true rfl) ?_
    clear S
    intro h S
    (try simp only [splice_cons, splice_nil, List.set_cons_zero, List.set_cons_succ, Nat.zero_add, Nat.reduceAdd, List.cons_append, List.nil_append] at S)
    (try simp (maxSteps := 1000000) (disch := first | omega | assumption | exact Nat.le_of_ble_eq_true rfl) only [go_sem, ↓mwp_block, simprocAttr, e23])
    refine hJ _ _ ?_ ?_
    · (try simp (maxSteps := 1000000) (disch := first | omega | assumption | exact Nat.le_of_ble_eq_true rfl) only [go_sem, ↓mwp_block, simprocAttr, e0, e6, e21, e22])
      exact ⟨i + 1, rfl, by omega, htk (by omega), E', e', S.p1⟩
    · (try simp (maxSteps := 1000000) (disch := first | omega | assumption | exact Nat.le_of_ble_eq_true rfl) only [go_sem, ↓mwp_block, simprocAttr, e23])
      omega
  obtain rfl : i = at_.length := by omega
  have hx : sk.take at_.length = sk := by rw [← (show sk.length = at_.length by omega), List.take_length]
  rw [hx, List.take_length] at S
  rw [List.take_length] at hok
  (try simp (maxSteps := 1000000) (disch := first | omega | assumption | exact Nat.le_of_ble_eq_true rfl) only [go_sem, ↓mwp_block, simprocAttr, e6])
  exact hK _ _ (.inr ⟨⟨by omega, by omega, hok⟩, k, rfl, St.stk.2 ⟨_, S.p1⟩⟩)
end
end Go.Proofs.YtblalmgahfbalaaGreat.MX

/- Orders: a config's bytes. -/
namespace Go.Proofs.YtblalmgahfbalaaGreat.MX
open Go Go.Proofs
set_option linter.unusedSimpArgs false
set_option linter.unusedVariables false
set_option maxHeartbeats 8000000
section
variable {h0 h : Heap} {l : List HP}
end
def linB (l : Lin) : List UInt8 := le 2 l.sku ++ (le 1 l.cat ++ (le 8 l.price ++ le 1 l.count))
def odrB (o : Odr) : List UInt8 := le 4 o.day ++ (le 8 o.disc ++ (le 8 o.tax ++ (le 8 o.ship ++ (le 1 o.ls.length ++ o.ls.flatMap linB))))
def supB (s : Sup) : List UInt8 := le 2 s.sku ++ (le 8 s.price ++ le 1 s.count)
def encC (C : Cfg) : List UInt8 := (le 2 (encT C.ps).length ++ encT C.ps) ++ (le 1 C.os.length ++ (C.os.flatMap odrB ++ (le 1 C.ss.length ++ C.ss.flatMap supB)))
section
variable {h0 h : Heap} {l : List HP}
end
end Go.Proofs.YtblalmgahfbalaaGreat.MX

/- Orders: which are alike. -/
namespace Go.Proofs.YtblalmgahfbalaaGreat.MX
open Go Go.Proofs
set_option linter.unusedSimpArgs false
set_option linter.unusedVariables false
set_option maxHeartbeats 8000000
/-- What two orders that are alike have in common. -/
def Odr.pu (o : Odr) : Int × Int × Int × Int × List Lin := (o.day, o.disc, o.tax, o.ship, o.ls)
def Cfg.pu (C : Cfg) : List Pol × List Sup × List (Int × Int × Int × Int × List Lin) := (C.ps, C.ss, C.os.map Odr.pu)
end Go.Proofs.YtblalmgahfbalaaGreat.MX

/- Orders: what is read. -/
namespace Go.Proofs.YtblalmgahfbalaaGreat.MX
open Go Go.Proofs
set_option linter.unusedSimpArgs false
set_option linter.unusedVariables false
set_option maxHeartbeats 8000000
/-- What is left to read. -/
abbrev Q := List UInt8 × Bool
noncomputable def vi (q : Q) : Int := IntKind.i64.wrap (vl 8 q)
noncomputable def bytesR (q : Q) : List UInt8 × Q := if (stp 2 q).2 = true ∨ (stp 2 q).1.length < (vl 2 q).toNat then ([], ([], true)) else ((stp 2 q).1.take (vl 2 q).toNat, ((stp 2 q).1.drop (vl 2 q).toNat, false))
noncomputable def pLin (q : Q) : Lin × Q := (⟨vl 2 q, vl 1 (stp 2 q), vi (stp 1 (stp 2 q)), vl 1 (stp 8 (stp 1 (stp 2 q)))⟩, stp 1 (stp 8 (stp 1 (stp 2 q))))
noncomputable def pSup (q : Q) : Sup × Q := (⟨vl 2 q, vi (stp 2 q), vl 1 (stp 8 (stp 2 q))⟩, stp 1 (stp 8 (stp 2 q)))
noncomputable def pMany {α : Type} (p : Q → α × Q) : Nat → Q → List α × Q
  | 0, q => ([], q)
  | n + 1, q => ((pMany p n q).1 ++ [(p (pMany p n q).2).1], (p (pMany p n q).2).2)
/-- What counts of an order. -/
abbrev POd := Int × Int × Int × Int × List Lin
noncomputable def pOdr (q : Q) : POd × Q :=
  ((vl 4 q, vi (stp 4 q), vi (stp 8 (stp 4 q)), vi (stp 8 (stp 8 (stp 4 q))), (pMany pLin (vl 1 (stp 8 (stp 8 (stp 8 (stp 4 q))))).toNat (stp 1 (stp 8 (stp 8 (stp 8 (stp 4 q)))))).1),
    (pMany pLin (vl 1 (stp 8 (stp 8 (stp 8 (stp 4 q))))).toNat (stp 1 (stp 8 (stp 8 (stp 8 (stp 4 q)))))).2)
theorem pMany_len {α : Type} (p : Q → α × Q) (q : Q) : ∀ n, (pMany p n q).1.length = n
  | 0 => rfl
  | n + 1 => by rw [pMany, List.length_append, pMany_len p q n]; rfl
theorem vl1 (q : Q) : 0 ≤ vl 1 q ∧ vl 1 q < 256 := by have := rdV_nn 1 q.1 q.2; simpa [vl] using this
theorem vl2 (q : Q) : 0 ≤ vl 2 q ∧ vl 2 q < 65536 := by have := rdV_nn 2 q.1 q.2; simpa [vl] using this
section
variable {h0 h : Heap} {l : List HP} {i : Nat} {q : Q}
end
end Go.Proofs.YtblalmgahfbalaaGreat.MX

/- Orders: a config that is read. -/
namespace Go.Proofs.YtblalmgahfbalaaGreat.MX
open Go Go.Proofs
set_option linter.unusedSimpArgs false
set_option linter.unusedVariables false
set_option maxHeartbeats 8000000
set_option maxRecDepth 20000
def oRow (o : Odr) : HP := ownA Lin.enc 4 69 (.slice o.A o.ls.length o.c) o.ls
theorem st_mem {h0 h : Heap} {L : List HP} {X : HP} (S : St h0 h L) (hx : X ∈ L) : ∃ M, St h0 h (X :: M) := by
  obtain ⟨a, b, rfl⟩ := List.append_of_mem hx
  exact ⟨_, S.perm List.perm_middle⟩
theorem rows_arr {h0 h : Heap} {L l : List HP} {os : List Odr} (S : St h0 h (L ++ (os.map oRow ++ l))) : ∀ o ∈ os, Arr Lin.enc 4 h o.A o.ls ∧ o.ls.length ≤ o.c ∧ o.c < 9223372036854775808 := fun o ho => by
  obtain ⟨M, S⟩ := st_mem S (X := oRow o) (List.mem_append_right _ (List.mem_append_left _ (List.mem_map_of_mem ho)))
  obtain ⟨_, h1, h2⟩ := S.cap
  exact ⟨S.arr Lin.enc_len, h1, h2⟩
theorem okOrder_pu {k : Int} {x y : Odr} (h : x.pu = y.pu) : okOrder k x → okOrder k y := by
  obtain ⟨a1, A1, c1, l1, d1, t1, s1⟩ := x
  obtain ⟨a2, A2, c2, l2, d2, t2, s2⟩ := y
  simp only [Odr.pu, Prod.mk.injEq] at h
  obtain ⟨rfl, rfl, rfl, rfl, rfl⟩ := h
  exact id
theorem ordSum_pu : ∀ {xs ys : List Odr}, xs.map Odr.pu = ys.map Odr.pu → ordSum xs = ordSum ys
  | [], [], _ => rfl
  | x :: xs, y :: ys, h => by
    simp only [List.map_cons, List.cons.injEq] at h
    have h1 := ordSum_pu h.2
    have h2 : x.ls = y.ls := congrArg (fun z => z.2.2.2.2) h.1
    simp only [ordSum, List.map_cons, List.sum_cons, h2] at h1 ⊢
    rw [h1]
  | [], y :: ys, h => by simp at h
  | x :: xs, [], h => by simp at h
theorem okCfg_pu {C D : Cfg} (h : C.pu = D.pu) (hok : okCfg C) : okCfg D := by
  have h1 : C.ps = D.ps := congrArg (fun z => z.1) h
  have h2 : C.ss = D.ss := congrArg (fun z => z.2.1) h
  have h3 : C.os.map Odr.pu = D.os.map Odr.pu := congrArg (fun z => z.2.2) h
  have hl : C.os.length = D.os.length := by have := congrArg List.length h3; simpa using this
  obtain ⟨k0, k1, k2, k3, k4, k5⟩ := hok
  refine ⟨h1 ▸ k0, by omega, by rw [← h2]; exact k2, fun o ho => ?_, h2 ▸ k4, ?_⟩
  · have : o.pu ∈ C.os.map Odr.pu := by rw [h3]; exact List.mem_map_of_mem ho
    obtain ⟨x, hx, e⟩ := List.mem_map.1 this
    rw [← h1]
    exact okOrder_pu e (k3 x hx)
  · have e1 : totOf C = ordSum C.os + supSum C.ss := rfl
    have e2 : totOf D = ordSum D.os + supSum D.ss := rfl
    rw [e2, ← ordSum_pu h3, ← h2, ← e1]
    exact k5
/-- What is read of some bytes: the table's bytes, the orders, the supplies, and what is left. -/
noncomputable def decO (b : List UInt8) : List POd × Q := pMany pOdr (vl 1 (bytesR (b, false)).2).toNat (stp 1 (bytesR (b, false)).2)
noncomputable def decS (b : List UInt8) : List Sup × Q := pMany pSup (vl 1 (decO b).2).toNat (stp 1 (decO b).2)
def Reads (b : List UInt8) (C : Cfg) : Prop := okCfg C ∧ encT C.ps = (bytesR (b, false)).1 ∧ C.os.map Odr.pu = (decO b).1 ∧ C.ss = (decS b).1 ∧ (decS b).2 = ([], false)
section
variable {h0 h : Heap} {l : List HP}
end
end Go.Proofs.YtblalmgahfbalaaGreat.MX

/- Orders: what is written and what is read, in plain words. -/
namespace Go.Proofs.YtblalmgahfbalaaGreat.MX
open Go Go.Proofs
set_option linter.unusedSimpArgs false
set_option linter.unusedVariables false
set_option maxHeartbeats 4000000
theorem stp_back {n : Nat} {q : Q} (h : (stp n q).2 = false) : q.2 = false ∧ n ≤ q.1.length ∧ q.1 = le n (vl n q) ++ (stp n q).1 := by
  obtain ⟨bs, bad⟩ := q
  have hx : rdX n bs bad = false := h
  unfold rdX at hx
  simp only [Bool.or_eq_false_iff, decide_eq_false_iff_not] at hx
  obtain ⟨rfl, hl⟩ := hx
  refine ⟨rfl, by simp only; omega, ?_⟩
  show bs = le n (rdV n bs false) ++ rdB n bs false
  rw [rdV, rdB, if_neg (by simp; omega), if_neg (by simp; omega), le_num_n _ n (by rw [List.length_take]; omega), List.take_append_drop]
theorem vi_nn {q : Q} (h : 0 ≤ vi q) : vi q = vl 8 q := by
  have hv := rdV_nn 8 q.1 q.2
  have e : vl 8 q = rdV 8 q.1 q.2 := rfl
  rw [← e] at hv
  by_cases hb : vl 8 q < 9223372036854775808
  · exact wrap_i64 (by omega) hb
  · exfalso
    have h1 : vl 8 q < 18446744073709551616 := by simpa using hv.2
    have : IntKind.i64.wrap (vl 8 q) = vl 8 q - 18446744073709551616 := by
      generalize vl 8 q = x at *
      simp only [IntKind.wrap, IntKind.signed, IntKind.bits]
      simp
      omega
    unfold vi at h
    omega
/-- Reading takes just the bytes of what is read. -/
def Back {α : Type} (p : Q → α × Q) (f : α → List UInt8) (ok : α → Prop) : Prop := ∀ q, (p q).2.2 = false → ok (p q).1 → q.2 = false ∧ q.1 = f (p q).1 ++ (p q).2.1
theorem many_back {α : Type} {p : Q → α × Q} {f : α → List UInt8} {ok : α → Prop} (hp : Back p f ok) : ∀ n q, (pMany p n q).2.2 = false → (∀ x ∈ (pMany p n q).1, ok x) → q.2 = false ∧ q.1 = (pMany p n q).1.flatMap f ++ (pMany p n q).2.1
  | 0, q, h, _ => ⟨h, by simp [pMany]⟩
  | n + 1, q, h, hok => by
    have hs : pMany p (n + 1) q = ((pMany p n q).1 ++ [(p (pMany p n q).2).1], (p (pMany p n q).2).2) := rfl
    rw [hs] at h hok ⊢
    obtain ⟨h1, h2⟩ := hp _ h (hok _ (by simp))
    obtain ⟨h3, h4⟩ := many_back hp n q h1 fun x hx => hok x (by simp [hx])
    refine ⟨h3, ?_⟩
    rw [h4, h2]
    simp
theorem lin_back (k : Int) : Back pLin linB (okLine k) := by
  intro q h hok
  obtain ⟨h1, _, e1⟩ := stp_back h
  obtain ⟨h2, _, e2⟩ := stp_back h1
  obtain ⟨h3, _, e3⟩ := stp_back h2
  obtain ⟨h4, _, e4⟩ := stp_back h3
  refine ⟨h4, ?_⟩
  have hv : vi (stp 1 (stp 2 q)) = vl 8 (stp 1 (stp 2 q)) := vi_nn hok.1.2.1.1
  show q.1 = (le 2 (vl 2 q) ++ (le 1 (vl 1 (stp 2 q)) ++ (le 8 (vi (stp 1 (stp 2 q))) ++ le 1 (vl 1 (stp 8 (stp 1 (stp 2 q))))))) ++ (stp 1 (stp 8 (stp 1 (stp 2 q)))).1
  rw [hv]
  conv => lhs; rw [e4, e3, e2, e1]
  simp only [List.append_assoc]
theorem sup_back : Back pSup supB okSup := by
  intro q h hok
  obtain ⟨h1, _, e1⟩ := stp_back h
  obtain ⟨h2, _, e2⟩ := stp_back h1
  obtain ⟨h3, _, e3⟩ := stp_back h2
  refine ⟨h3, ?_⟩
  have hv : vi (stp 2 q) = vl 8 (stp 2 q) := vi_nn hok.2.1.1
  show q.1 = (le 2 (vl 2 q) ++ (le 8 (vi (stp 2 q)) ++ le 1 (vl 1 (stp 8 (stp 2 q))))) ++ (stp 1 (stp 8 (stp 2 q))).1
  rw [hv]
  conv => lhs; rw [e3, e2, e1]
  simp only [List.append_assoc]
def odrBp (x : POd) : List UInt8 := le 4 x.1 ++ (le 8 x.2.1 ++ (le 8 x.2.2.1 ++ (le 8 x.2.2.2.1 ++ (le 1 x.2.2.2.2.length ++ x.2.2.2.2.flatMap linB))))
theorem odrBp_pu (o : Odr) : odrBp o.pu = odrB o := rfl
def okP (k : Int) (x : POd) : Prop := (0 ≤ x.1 ∧ x.1 ≤ 100000) ∧ (x.2.2.2.2.length ≤ 8) ∧ okPrice x.2.1 ∧ okPrice x.2.2.1 ∧ okPrice x.2.2.2.1 ∧ ∀ l ∈ x.2.2.2.2, okLine k l
theorem okP_of {k : Int} {o : Odr} (h : okOrder k o) : okP k o.pu := ⟨h.1.1, h.1.2.1.2, h.1.2.2.1, h.1.2.2.2.1, h.1.2.2.2.2, h.2.1⟩
theorem odr_back (k : Int) : Back pOdr odrBp (okP k) := by
  intro q h hok
  obtain ⟨_, _, ⟨p1, _⟩, ⟨p2, _⟩, ⟨p3, _⟩, hl⟩ := hok
  obtain ⟨h0, e0⟩ := many_back (lin_back k) _ _ h hl
  obtain ⟨h1, _, e1⟩ := stp_back h0
  obtain ⟨h2, _, e2⟩ := stp_back h1
  obtain ⟨h3, _, e3⟩ := stp_back h2
  obtain ⟨h4, _, e4⟩ := stp_back h3
  obtain ⟨h5, _, e5⟩ := stp_back h4
  refine ⟨h5, ?_⟩
  have v1 : vi (stp 4 q) = vl 8 (stp 4 q) := vi_nn p1
  have v2 : vi (stp 8 (stp 4 q)) = vl 8 (stp 8 (stp 4 q)) := vi_nn p2
  have v3 : vi (stp 8 (stp 8 (stp 4 q))) = vl 8 (stp 8 (stp 8 (stp 4 q))) := vi_nn p3
  have hn := vl1 (stp 8 (stp 8 (stp 8 (stp 4 q))))
  have hln : (((pMany pLin (vl 1 (stp 8 (stp 8 (stp 8 (stp 4 q))))).toNat (stp 1 (stp 8 (stp 8 (stp 8 (stp 4 q)))))).1.length : Nat) : Int) = vl 1 (stp 8 (stp 8 (stp 8 (stp 4 q)))) := by rw [pMany_len]; omega
  show q.1 = (le 4 (vl 4 q) ++ (le 8 (vi (stp 4 q)) ++ (le 8 (vi (stp 8 (stp 4 q))) ++ (le 8 (vi (stp 8 (stp 8 (stp 4 q)))) ++ (le 1 ((pMany pLin (vl 1 (stp 8 (stp 8 (stp 8 (stp 4 q))))).toNat (stp 1 (stp 8 (stp 8 (stp 8 (stp 4 q)))))).1.length : Nat) ++ (pMany pLin (vl 1 (stp 8 (stp 8 (stp 8 (stp 4 q))))).toNat (stp 1 (stp 8 (stp 8 (stp 8 (stp 4 q)))))).1.flatMap linB))))) ++ (pMany pLin (vl 1 (stp 8 (stp 8 (stp 8 (stp 4 q))))).toNat (stp 1 (stp 8 (stp 8 (stp 8 (stp 4 q)))))).2.1
  rw [hln, v1, v2, v3]
  conv => lhs; rw [e5, e4, e3, e2, e1, e0]
  simp only [List.append_assoc]
theorem flat_pu (os : List Odr) : (os.map Odr.pu).flatMap odrBp = os.flatMap odrB := by
  induction os with
  | nil => rfl
  | cons o os ih => rw [List.map_cons, List.flatMap_cons, List.flatMap_cons, ih, odrBp_pu]
/-- What is read has just the bytes that were read. -/
theorem Reads.bytes {b : List UInt8} {C : Cfg} (h : Reads b C) : encC C = b := by
  obtain ⟨hok, h1, h2, h3, h4⟩ := h
  obtain ⟨k0, k1, k2, k3, k4, k5⟩ := hok
  have g1 := many_back sup_back _ (stp 1 (decO b).2) (show (decS b).2.2 = false by rw [h4]) (fun x hx => k4.1 x (by rw [h3]; exact hx))
  obtain ⟨g2, g3⟩ := g1
  obtain ⟨g4, _, g5⟩ := stp_back g2
  have g6 := many_back (odr_back C.ps.length) _ (stp 1 (bytesR (b, false)).2) g4 (fun x hx => by
    have hx : x ∈ (decO b).1 := hx
    rw [← h2] at hx
    obtain ⟨o, ho, rfl⟩ := List.mem_map.1 hx
    exact okP_of (k3 o ho))
  obtain ⟨g7, g8⟩ := g6
  obtain ⟨g9, _, g10⟩ := stp_back g7
  have hO : pMany pOdr (vl 1 (bytesR (b, false)).2).toNat (stp 1 (bytesR (b, false)).2) = decO b := rfl
  have hS : pMany pSup (vl 1 (decO b).2).toNat (stp 1 (decO b).2) = decS b := rfl
  rw [hS, h4, ← h3, List.append_nil] at g3
  rw [hO, ← h2, flat_pu] at g8
  have n1 : vl 1 (bytesR (b, false)).2 = (C.os.length : Int) := by
    have := congrArg List.length h2
    rw [← hO, pMany_len, List.length_map] at this
    have := vl1 (bytesR (b, false)).2
    omega
  have n2 : vl 1 (decO b).2 = (C.ss.length : Int) := by
    have := congrArg List.length h3
    rw [← hS, pMany_len] at this
    have := vl1 (decO b).2
    omega
  rw [n1] at g10
  rw [n2] at g5
  have hb : b = le 2 (bytesR (b, false)).1.length ++ ((bytesR (b, false)).1 ++ (bytesR (b, false)).2.1) := by
    have hv := vl2 (b, false)
    by_cases hc : (stp 2 (b, false)).2 = true ∨ (stp 2 (b, false)).1.length < (vl 2 (b, false)).toNat
    · have : bytesR (b, false) = ([], ([], true)) := by unfold bytesR; rw [if_pos hc]
      rw [this] at g9
      cases g9
    · have hR : bytesR (b, false) = ((stp 2 (b, false)).1.take (vl 2 (b, false)).toNat, ((stp 2 (b, false)).1.drop (vl 2 (b, false)).toNat, false)) := by unfold bytesR; rw [if_neg hc]
      have hbf : (stp 2 (b, false)).2 = false := by cases h : (stp 2 (b, false)).2 with
        | false => rfl
        | true => exact (hc (.inl h)).elim
      obtain ⟨_, _, e⟩ := stp_back hbf
      have hln : ((stp 2 (b, false)).1.take (vl 2 (b, false)).toNat).length = (vl 2 (b, false)).toNat := by rw [List.length_take]; omega
      rw [hR]
      simp only [hln, List.take_append_drop]
      rw [Int.toNat_of_nonneg hv.1]
      exact e
  rw [encC, h1]
  conv => rhs; rw [hb, g10, g8, g5, g3]
  simp only [List.append_assoc]
end Go.Proofs.YtblalmgahfbalaaGreat.MX
