/- The reference's frames. -/
import Derived.Test.YtackopkhelochaaFr9
namespace Go.Proofs.Ytackopkhelochaa.MX
open Go Go.Proofs
set_option linter.unusedSimpArgs false
set_option linter.unusedVariables false
set_option maxRecDepth 100000

/-- What of the first frame's head is wrong, in the reference's words. -/
theorem no8 {d : List UInt8} (h : d.length < 8) : firstOf d = none := firstOf_no fun ho => by
  obtain ⟨g1, _, g3, _, g5, _⟩ := ho
  omega
theorem no165 {d : List UInt8} {x : UInt8} (h : d[0]? = some x) (hx : ¬ (x.toNat : Int) = 165) : firstOf d = none := firstOf_no fun ho => by
  have := ho.2.1
  rw [h] at this
  cases this
  exact hx rfl

set_option maxHeartbeats 4000000 in
theorem RefFrames_ok {h0 h : Heap} {l : List HP} {A : Option Addr} {c : Nat} {b : List UInt8} (S : St h0 h l) (ha : ∀ h', St h0 h' l → Arr bEnc 1 h' A b) (hc : b.length ≤ c) (hc2 : c < 9223372036854775808) (hl : b.length < 10000000) :
    CallsH Try.prog 36 [.slice A b.length c] h fun r h' => ∃ s1 s2, r = .tuple #[s1, s2] ∧ St h0 h' (lsA s1 (framesOf b) :: ownA iEnc 1 3 s2 (placesOf (framesOf b)) :: l) := by
  have hfl := frames_lt b
  (refine enterK c_recoupref01_Frames (Nat.le_of_ble_eq_true rfl) fun K hK => ?_; (try simp (maxSteps := 1000000) (disch := first | omega | assumption | exact Nat.le_of_ble_eq_true rfl) only [go_sem, ↓mwp_block, simprocAttr, ir_recoupref01_Frames]))
  have S : St h0 h (lsA (.slice none 0 0) [] :: ownA iEnc 1 3 (.slice none 0 0) [] :: l) := lsA_open.2 ⟨[], rfl, S.nilS.nilS⟩
  refine loop_intro (fun ρ h' => ρ 0 = .slice A b.length c ∧ ∃ (i : Nat) (s1 s2 : Value), ρ 4 = s1 ∧ ρ 5 = s2 ∧ i ≤ (framesOf b).length ∧ ρ 6 = .int .i64 (endOf ((framesOf b).take i) : Nat) ∧ St h0 h' (lsA s1 ((framesOf b).take i) :: ownA iEnc 1 3 s2 (placesOf ((framesOf b).take i)) :: l)) (fun ρ _ => b.length - (iv (ρ 6)).toNat) ?_ ?_
  · (try simp (maxSteps := 1000000) (disch := first | omega | assumption | exact Nat.le_of_ble_eq_true rfl) only [go_sem, ↓mwp_block, simprocAttr])
    exact ⟨0, _, _, rfl, rfl, Nat.zero_le _, rfl, S⟩
  · clear S
    rintro ρ h J hJ ⟨e0, i, s1, s2, e4, e5, hi, e6, S⟩
    obtain ⟨hd1, hd2⟩ := framesOf_drop i b hi
    have hfe := framesOf_eq (b.drop (endOf ((framesOf b).take i)))
    rw [hd1] at hfe
    have hdl : (b.drop (endOf ((framesOf b).take i))).length = b.length - endOf ((framesOf b).take i) := List.length_drop
    have hd0 : (b.drop (endOf ((framesOf b).take i)))[0]? = b[endOf ((framesOf b).take i)]? := by rw [List.getElem?_drop, Nat.add_zero]
    -- no frame is left: the loop ends
    have fin : ∀ {h : Heap}, firstOf (b.drop (endOf ((framesOf b).take i))) = none → St h0 h (lsA s1 ((framesOf b).take i) :: ownA iEnc 1 3 s2 (placesOf ((framesOf b).take i)) :: l) → ∃ t1 t2, Value.tuple #[s1, s2] = .tuple #[t1, t2] ∧ St h0 h (lsA t1 (framesOf b) :: ownA iEnc 1 3 t2 (placesOf (framesOf b)) :: l) := fun hn S => by
      rw [hn] at hfe
      simp only [List.drop_eq_nil_iff] at hfe
      rw [List.take_of_length_le hfe] at S
      exact ⟨s1, s2, rfl, S⟩
    generalize hat : endOf ((framesOf b).take i) = at' at *
    generalize hdd : b.drop at' = d at *
    by_cases g1 : d.length < 8
    · (try simp (maxSteps := 1000000) (disch := first | omega | assumption | exact Nat.le_of_ble_eq_true rfl) only [go_sem, ↓mwp_block, simprocAttr, e0, e6, e4, e5])
      exact hK _ _ (fin (no8 g1) S)
    have hlt : at' < b.length := by omega
    obtain ⟨bk, off, rfl, hr0⟩ := (ha h S.tl.tl).at hlt
    have hb0 : d[0]? = some b[at'] := by rw [hd0, List.getElem?_eq_getElem hlt]
    have p0 := rd1_part (k := 0) hr0
    simp only [bEnc, Nat.add_zero, List.getElem?_cons_zero, Nat.mul_one] at p0
    generalize b[at'] = x0 at hb0 p0
    by_cases g2 : (x0.toNat : Int) = 165
    case neg =>
      (try simp (maxSteps := 1000000) (disch := first | omega | assumption | exact Nat.le_of_ble_eq_true rfl) only [go_sem, ↓mwp_block, simprocAttr, e0, e6, e4, e5, p0, Nat.mul_one])
      exact hK _ _ (fin (no165 hb0 g2) S)
    have hx0 : x0 = 165 := by
      apply UInt8.toNat_inj.1
      have : x0.toNat = 165 := by omega
      simpa using this
    have k1 : (d.drop 1).take 2 = (b.drop (at' + 1)).take 2 := by rw [← hdd, List.drop_drop]
    have k3 : (d.drop 3).take 4 = (b.drop (at' + 3)).take 4 := by rw [← hdd, List.drop_drop]
    have hN : frN d = num ((b.drop (at' + 1)).take 2) := by rw [frN, k1]
    have hN0 : 0 ≤ frN d := num_nonneg _
    have hN1 : frN d < 65536 := by
      have := num_lt ((d.drop 1).take 2)
      have h2 : ((d.drop 1).take 2).length = 2 := by simp; omega
      rw [h2] at this
      exact this
    have hb1 : ∀ h', St h0 h' l → ∀ n m, Arr bEnc 1 h' (some ⟨bk, off + n, none⟩) ((b.drop n).take m) := fun h' S n m => arr_take (arr_drop (ha h' S) n) m
    (try simp (maxSteps := 1000000) (disch := first | omega | assumption | exact Nat.le_of_ble_eq_true rfl) only [go_sem, ↓mwp_block, simprocAttr, e0, e6, p0, Nat.mul_one])
    refine call_intro (Number2_ok (ys := (b.drop (at' + 1)).take 2) ?_ (by simp; omega) (by simp; omega)) ?_
    · have := hb1 h S.tl.tl (at' + 1) 2
      rw [show off + (at' + 1) = off + ((at' : Int) + 1).toNat by omega] at this
      exact this
    rintro _ _ ⟨rfl, rfl⟩
    rw [← hN]
    by_cases g3 : frN d < 1
    · (try simp (maxSteps := 1000000) (disch := first | omega | assumption | exact Nat.le_of_ble_eq_true rfl) only [go_sem, ↓mwp_block, simprocAttr, e0, e6, e4, e5])
      exact hK _ _ (fin (firstOf_no fun h => h.2.2.1 g3) S)
    by_cases g4 : 60000 < frN d
    · (try simp (maxSteps := 1000000) (disch := first | omega | assumption | exact Nat.le_of_ble_eq_true rfl) only [go_sem, ↓mwp_block, simprocAttr, e0, e6, e4, e5])
      exact hK _ _ (fin (firstOf_no fun h => h.2.2.2.1 g4) S)
    by_cases g5 : (b.length : Int) < at' + 7 + frN d
    · (try simp (maxSteps := 1000000) (disch := first | omega | assumption | exact Nat.le_of_ble_eq_true rfl) only [go_sem, ↓mwp_block, simprocAttr, e0, e6, e4, e5])
      exact hK _ _ (fin (firstOf_no fun h => h.2.2.2.2.1 (by omega)) S)
    have hat0 : ((at' : Int) + 1).toNat = at' + 1 := by omega
    have hat3 : ((at' : Int) + 3).toNat = at' + 3 := by omega
    have hat7 : ((at' : Int) + 7).toNat = at' + 7 := by omega
    (try simp (maxSteps := 1000000) (disch := first | omega | assumption | exact Nat.le_of_ble_eq_true rfl) only [go_sem, ↓mwp_block, simprocAttr, e0, e6, hat0, hat3, hat7, Nat.mul_one])
    (refine st_alloc S ?_; clear S; intro q h S; (try simp only [splice_cons, splice_nil, List.set_cons_zero, List.set_cons_succ, Nat.zero_add, Nat.reduceAdd, List.cons_append, List.nil_append] at S); ((try clear F); have F := S.all; (try simp only [all_cons, all_nil, says_cell, and_true] at F)))
    have S := S.cellOwn (enc := bEnc) (sz := 1) (ys := []) bEnc_len rfl (by decide)
    have h2l : ((b.drop (at' + 1)).take 2).length = 2 := by simp; omega
    have h4l : ((b.drop (at' + 3)).take 4).length = 4 := by simp; omega
    have hXe : frX d = (b.drop (at' + 7)).take (frN d).toNat := by rw [frX, ← hdd, List.drop_drop]
    have hXl : (frX d).length = (frN d).toNat := by rw [hXe]; simp; omega
    (try simp (maxSteps := 1000000) (disch := first | omega | assumption | exact Nat.le_of_ble_eq_true rfl) only [go_sem, ↓mwp_block, simprocAttr, e0, e6, hat0, hat3, hat7, Nat.mul_one])
    refine st_append (bytes := 1) (xs := []) (ys := (b.drop (at' + 1)).take 2) bEnc_len (by omega) bEnc_plain rfl S (by simp [srcLen]; omega) (src_arr bEnc_len (hb1 _ S.tl.tl.tl _ _) (by simp; omega)) (by simp; omega) (by simp; omega) ?_
    clear S F
    intro v1 h S
    rw [List.nil_append] at S
    (try simp (maxSteps := 1000000) (disch := first | omega | assumption | exact Nat.le_of_ble_eq_true rfl) only [go_sem, ↓mwp_block, simprocAttr])
    refine st_append (bytes := 1) (ys := frX d) bEnc_len (by omega) bEnc_plain rfl S (by simp [srcLen]; omega) (src_arr bEnc_len (by rw [hXe]; exact hb1 _ S.tl.tl.tl _ _) (by omega)) (by omega) (by omega) ?_
    clear S
    intro v2 h S
    obtain ⟨B2, c2, rfl⟩ := S.sl
    (try simp (maxSteps := 1000000) (disch := first | omega | assumption | exact Nat.le_of_ble_eq_true rfl) only [go_sem, ↓mwp_block, simprocAttr, e0, e6, hat0, hat3, hat7, Nat.mul_one])
    refine call_intro (Number2_ok (ys := (b.drop (at' + 3)).take 4) (hb1 _ S.tl.tl.tl _ _) (by simp; omega) (by omega)) ?_
    rintro _ _ ⟨rfl, rfl⟩
    (try simp (maxSteps := 1000000) (disch := first | omega | assumption | exact Nat.le_of_ble_eq_true rfl) only [go_sem, ↓mwp_block, simprocAttr])
    refine call_intro (RefSum_ok (S.arr bEnc_len) (by simp; omega)) ?_
    rintro _ _ ⟨rfl, rfl⟩
    have S := S.tl
    have h4n : 0 ≤ num ((b.drop (at' + 3)).take 4) ∧ num ((b.drop (at' + 3)).take 4) < 4294967296 := by
      have := num_lt ((b.drop (at' + 3)).take 4)
      rw [h4l] at this
      exact ⟨num_nonneg _, this⟩
    have hle : (b.drop (at' + 1)).take 2 = le 2 (frX d).length := by
      have := le_num ((b.drop (at' + 1)).take 2)
      rw [h2l, ← hN] at this
      rw [← this]
      congr 1
      omega
    have hsm : sumOf ((b.drop (at' + 1)).take 2 ++ frX d) = fsum (frX d) := by rw [hle]; rfl
    have hfs : fsum (frX d) < 4294967296 := sum_lt _
    rw [hsm]
    by_cases g6 : num ((b.drop (at' + 3)).take 4) = fsum (frX d)
    case neg =>
      (try simp (maxSteps := 1000000) (disch := first | omega | assumption | exact Nat.le_of_ble_eq_true rfl) only [go_sem, ↓mwp_block, simprocAttr, e4, e5])
      exact hK _ _ (fin (firstOf_no fun h => g6 (by rw [← k3]; exact h.2.2.2.2.2)) S)
    have hyes : firstOf d = some (frX d) := firstOf_yes ⟨by omega, by rw [hb0, hx0], g3, g4, by omega, by rw [k3]; exact g6⟩
    rw [hyes] at hfe
    simp only at hfe
    have hil : i < (framesOf b).length := by
      rcases Nat.lt_or_ge i (framesOf b).length with h1 | h1
      · exact h1
      · rw [List.drop_eq_nil_of_le h1] at hfe; cases hfe
    have hxi : (framesOf b)[i] = frX d := by
      rw [List.drop_eq_getElem_cons hil] at hfe
      exact (List.cons.inj hfe).1
    have htk1 : (framesOf b).take (i + 1) = (framesOf b).take i ++ [frX d] := by rw [List.take_succ_eq_append_getElem hil, hxi]
    have htk : endOf ((framesOf b).take (i + 1)) = at' + (7 + (frX d).length) := by
      rw [htk1, endOf_app, hat]
      simp [endOf]
    have hps := placesOf_succ (framesOf b) hil
    (try simp (maxSteps := 1000000) (disch := first | omega | assumption | exact Nat.le_of_ble_eq_true rfl) only [go_sem, ↓mwp_block, simprocAttr, e4])
    (refine st_alloc S ?_; clear S; intro q1 h S; (try simp only [splice_cons, splice_nil, List.set_cons_zero, List.set_cons_succ, Nat.zero_add, Nat.reduceAdd, List.cons_append, List.nil_append] at S); ((try clear F); have F := S.all; (try simp only [all_cons, all_nil, says_cell, and_true] at F)))
    have S := S.cellOwn (enc := bEnc) (sz := 1) (ys := []) bEnc_len rfl (by decide)
    (try simp (maxSteps := 1000000) (disch := first | omega | assumption | exact Nat.le_of_ble_eq_true rfl) only [go_sem, ↓mwp_block, simprocAttr])
    refine st_append (bytes := 1) (xs := []) (ys := frX d) bEnc_len (by omega) bEnc_plain rfl S (by simp [srcLen]; omega) (src_arr bEnc_len (by rw [hXe]; exact hb1 _ S.tl.tl.tl _ _) (by omega)) (by simp; omega) (by simp; omega) ?_
    clear S F
    intro v3 h S
    rw [List.nil_append] at S
    obtain ⟨B3, c3, rfl⟩ := S.sl
    (try simp (maxSteps := 1000000) (disch := first | omega | assumption | exact Nat.le_of_ble_eq_true rfl) only [go_sem, ↓mwp_block, simprocAttr])
    (refine st_alloc S ?_; clear S; intro q2 h S; (try simp only [splice_cons, splice_nil, List.set_cons_zero, List.set_cons_succ, Nat.zero_add, Nat.reduceAdd, List.cons_append, List.nil_append] at S); ((try clear F); have F := S.all; (try simp only [all_cons, all_nil, says_cell, and_true] at F)))
    (try simp (maxSteps := 1000000) (disch := first | omega | assumption | exact Nat.le_of_ble_eq_true rfl) only [go_sem, ↓mwp_block, simprocAttr])
    refine ls_append (S.p2.p1) (by simp; omega) ?_
    clear S F
    intro v4 h S
    rw [← htk1] at S
    have S := S.p1
    (try simp (maxSteps := 1000000) (disch := first | omega | assumption | exact Nat.le_of_ble_eq_true rfl) only [go_sem, ↓mwp_block, simprocAttr, e5, e6])
    have hee : (at' : Int) + 7 + frN d = ((endOf ((framesOf b).take (i + 1)) : Nat) : Int) := by rw [htk]; omega
    rw [hee]
    (refine st_alloc S ?_; clear S; intro q3 h S; (try simp only [splice_cons, splice_nil, List.set_cons_zero, List.set_cons_succ, Nat.zero_add, Nat.reduceAdd, List.cons_append, List.nil_append] at S); ((try clear F); have F := S.all; (try simp only [all_cons, all_nil, says_cell, and_true] at F)))
    (try simp (maxSteps := 1000000) (disch := first | omega | assumption | exact Nat.le_of_ble_eq_true rfl) only [go_sem, ↓mwp_block, simprocAttr])
    refine st_append1 (bytes := 8) (x := endOf ((framesOf b).take (i + 1))) iEnc_len (by omega) iEnc_plain rfl rfl S (by rw [placesOf_len, List.length_take]; omega) (by rw [placesOf_len, List.length_take]; omega) ?_
    clear S F
    intro v5 h S
    rw [← hps] at S
    (try simp (maxSteps := 1000000) (disch := first | omega | assumption | exact Nat.le_of_ble_eq_true rfl) only [go_sem, ↓mwp_block, simprocAttr, e6])
    refine hJ _ _ ?_ ?_
    · (try simp (maxSteps := 1000000) (disch := first | omega | assumption | exact Nat.le_of_ble_eq_true rfl) only [go_sem, ↓mwp_block, simprocAttr, e0, e6, hee])
      exact ⟨i + 1, _, _, rfl, rfl, hil, rfl, S.p1⟩
    · (try simp (maxSteps := 1000000) (disch := first | omega | assumption | exact Nat.le_of_ble_eq_true rfl) only [go_sem, ↓mwp_block, simprocAttr, e6, hee])
      omega
end Go.Proofs.Ytackopkhelochaa.MX
