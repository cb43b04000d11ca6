/- Tables decoded; the law TableBack. -/
import Derived.Test.YtackopkhelochaaTb7
namespace Go.Proofs.Ytackopkhelochaa.MX
open Go Go.Proofs
set_option linter.unusedSimpArgs false
set_option linter.unusedVariables false

theorem arr_none {α : Type} {enc : α → List Value} {sz : Nat} {h : Heap} {A : Option Addr} {xs : List α} (ha : Arr enc sz h A xs) : A = none → xs = [] := by
  rintro rfl
  cases xs with
  | nil => rfl
  | cons x xs => obtain ⟨b, off, hA, _⟩ := ha 0 (by simp); cases hA
/-- Some bytes are a right table's. -/
def IsT (b : List UInt8) : Prop := ∃ l, RightT l ∧ encT l = b
theorem isT_cnt {b : List UInt8} {l : List Pol} (h : encT l = b) (h16 : l.length ≤ 16) : 2 ≤ b.length ∧ num (b.take 2) = l.length ∧ b.length = 2 + 23 * l.length := by
  have h1 := encT_len l
  rw [h] at h1
  have h2 : b.take 2 = le 2 l.length := by
    rw [← h, encT, List.take_append_of_le_length (by rw [le_length]; exact Nat.le_refl _), List.take_of_length_le (by rw [le_length]; exact Nat.le_refl _)]
  refine ⟨by omega, ?_, by omega⟩
  rw [h2, num_le 2 _ (by omega) (by simp; omega)]
theorem flat_chunk : ∀ (l : List Pol) (k : Nat) (hk : k < l.length), ((l.flatMap Pol.bytes).drop (23 * k)).take 23 = l[k].bytes
  | p :: l, 0, _ => by
    simp only [Nat.mul_zero, List.drop_zero, List.flatMap_cons, List.getElem_cons_zero]
    rw [List.take_append_of_le_length (by rw [Pol.bytes_len]; exact Nat.le_refl _), List.take_of_length_le (by rw [Pol.bytes_len]; exact Nat.le_refl _)]
  | p :: l, k + 1, hk => by
    have ih := flat_chunk l k (by simpa using hk)
    simp only [List.flatMap_cons, List.getElem_cons_succ]
    rw [show 23 * (k + 1) = 23 + 23 * k by omega, ← List.drop_drop]
    have : (p.bytes ++ l.flatMap Pol.bytes).drop 23 = l.flatMap Pol.bytes := by
      rw [← Pol.bytes_len p, List.drop_left]
    rw [this, ih]
/-- A right table's flags are at most 7. -/
theorem flag_of_bytes {bs : List UInt8} {p : Pol} (h : bs.take 23 = p.bytes) (hl : 23 ≤ bs.length) : vl 1 (q1 (bs, false)) ≤ 7 := by
  have e1 : vl 1 (q1 (bs, false)) = _ := q_at [2] (by simp; omega) 1 (by simp; omega)
  rw [e1]
  have : (bs.drop 2).take 1 = le 1 (flagsOf p) := by
    have h2 : ((bs.take 23).drop 2).take 1 = (bs.drop 2).take 1 := by rw [List.drop_take, List.take_take]; rfl
    rw [← h2, h]
    unfold Pol.bytes
    rw [List.drop_append_of_le_length (by rw [le_length]; exact Nat.le_refl _), List.drop_of_length_le (by rw [le_length]; exact Nat.le_refl _), List.nil_append, List.take_append_of_le_length (by rw [le_length]; exact Nat.le_refl _), List.take_of_length_le (by rw [le_length]; exact Nat.le_refl _)]
  simp only [List.sum_cons, List.sum_nil, Nat.add_zero]
  rw [this, num_le 1 _ (flagsOf_lt p).1 (by have := (flagsOf_lt p).2; simp; omega)]
  have := (flagsOf_lt p).2
  omega

set_option maxRecDepth 20000 in
set_option maxHeartbeats 4000000 in
theorem Decode_ok {h0 h : Heap} {L : List HP} {A : Option Addr} {c : Nat} {b : List UInt8} (S : St h0 h L) (ha : Arr bEnc 1 h A b) (hl : b.length < 1000000) :
    CallsH Try.prog 40 [.slice A b.length c] h fun v h' => (∃ l s, RightT l ∧ encT l = b ∧ v = .tuple #[s, .int .i64 0] ∧ St h0 h' (ownA Pol.enc 16 41 s l :: L)) ∨ (¬ IsT b ∧ v = .tuple #[.slice none 0 0, .int .i64 3] ∧ St h0 h' L) := by
  (refine enterK c_table_Decode (Nat.le_of_ble_eq_true rfl) fun K hK => ?_; (try simp (disch := first | omega | assumption | exact Nat.le_of_ble_eq_true rfl) only [go_sem, ↓mwp_block, Nat.reduceEqDiff, Nat.reduceAdd, Nat.reduceMul, Nat.reduceSub, Nat.reduceLeDiff, Nat.reduceLT, reduceIte, Int.reduceLT, Int.reduceLE, Int.reduceAdd, Int.reduceSub, Int.reduceMul, Int.reduceEq, Int.reduceToNat, Int.reduceNeg, Int.reduceNe, ir_table_Decode]))
  refine call_intro (NewIn_ok S ha (arr_none ha) (by omega)) ?_
  rintro _ h ⟨i, rfl, S⟩
  (try simp (disch := first | omega | assumption | exact Nat.le_of_ble_eq_true rfl) only [go_sem, ↓mwp_block, Nat.reduceEqDiff, Nat.reduceAdd, Nat.reduceMul, Nat.reduceSub, Nat.reduceLeDiff, Nat.reduceLT, reduceIte, Int.reduceLT, Int.reduceLE, Int.reduceAdd, Int.reduceSub, Int.reduceMul, Int.reduceEq, Int.reduceToNat, Int.reduceNeg, Int.reduceNe])
  refine call_intro (Most_ok 16 S (by omega)) ?_
  intro r h hr
  obtain ⟨cnt, q, hcnt, rfl, S, hC⟩ : ∃ (cnt : Nat) (q : List UInt8 × Bool), cnt ≤ 16 ∧ r = .int .i64 cnt ∧ St h0 h (inA i q.1 q.2 :: L) ∧ ((2 ≤ b.length ∧ num (b.take 2) = cnt ∧ q = (b.drop 2, false)) ∨ (q = ([], true) ∧ ¬ IsT b)) := by
    split at hr
    · rename_i hgt
      obtain ⟨rfl, S⟩ := hr
      refine ⟨0, ([], true), by omega, rfl, S, .inr ⟨rfl, ?_⟩⟩
      rintro ⟨l, hR, he⟩
      have := isT_cnt he hR.1
      rw [rdV, if_neg (by simp; omega), this.2.1] at hgt
      have := hR.1
      omega
    · rename_i hgt
      obtain ⟨rfl, S⟩ := hr
      by_cases h2 : 2 ≤ b.length
      · have hv := num_nonneg (b.take 2)
        rw [rdV, if_neg (by simp; omega)] at hgt
        refine ⟨(num (b.take 2)).toNat, (b.drop 2, false), by omega, ?_, ?_, .inl ⟨h2, by omega, rfl⟩⟩
        · rw [rdV, if_neg (by simp; omega)]
          congr 1
          omega
        · rw [rdB, if_neg (by simp; omega)] at S
          have hx : rdX 2 b false = false := by simp [rdX]; omega
          rw [hx] at S
          exact S
      · refine ⟨0, ([], true), by omega, ?_, ?_, .inr ⟨rfl, ?_⟩⟩
        · rw [rdV, if_pos (.inr (by omega))]
          rfl
        · rw [rdB, if_pos (.inr (by omega))] at S
          have hx : rdX 2 b false = true := by simp [rdX]; omega
          rw [hx] at S
          exact S
        · rintro ⟨l, hR, he⟩
          have := (isT_cnt he hR.1).1
          omega
  have hql : q.1.length ≤ b.length := by rcases hC with ⟨_, _, rfl⟩ | ⟨rfl, _⟩ <;> simp
  (try simp (disch := first | omega | assumption | exact Nat.le_of_ble_eq_true rfl) only [go_sem, ↓mwp_block, Nat.reduceEqDiff, Nat.reduceAdd, Nat.reduceMul, Nat.reduceSub, Nat.reduceLeDiff, Nat.reduceLT, reduceIte, Int.reduceLT, Int.reduceLE, Int.reduceAdd, Int.reduceSub, Int.reduceMul, Int.reduceEq, Int.reduceToNat, Int.reduceNeg, Int.reduceNe])
  refine loop_intro (fun ρ h' => ρ 4 = .pointer (some ⟨i, 0, none⟩) ∧ ρ 11 = .int .i64 cnt ∧ ∃ (k : Nat) (l : List Pol) (q : List UInt8 × Bool), ρ 12 = .int .i64 k ∧ k ≤ cnt ∧ l.length = k ∧ (∀ p ∈ l, p.fits) ∧ q.1.length ≤ b.length ∧
      ((2 ≤ b.length ∧ num (b.take 2) = cnt ∧ q = (b.drop (2 + 23 * k), false) ∧ 2 + 23 * k ≤ b.length ∧ l.flatMap Pol.bytes = (b.drop 2).take (23 * k)) ∨ (q = ([], true) ∧ ¬ IsT b)) ∧ St h0 h' (ownA Pol.enc 16 41 (ρ 5) l :: inA i q.1 q.2 :: L)) (fun ρ _ => cnt - (iv (ρ 12)).toNat) ?_ ?_
  · (try simp (disch := first | omega | assumption | exact Nat.le_of_ble_eq_true rfl) only [go_sem, ↓mwp_block, Nat.reduceEqDiff, Nat.reduceAdd, Nat.reduceMul, Nat.reduceSub, Nat.reduceLeDiff, Nat.reduceLT, reduceIte, Int.reduceLT, Int.reduceLE, Int.reduceAdd, Int.reduceSub, Int.reduceMul, Int.reduceEq, Int.reduceToNat, Int.reduceNeg, Int.reduceNe])
    refine ⟨0, [], q, rfl, Nat.zero_le _, rfl, by simp, hql, ?_, S.nilS⟩
    rcases hC with ⟨h2, hn, rfl⟩ | hC
    · exact .inl ⟨h2, hn, rfl, by omega, by simp⟩
    · exact .inr hC
  · clear S hC hql
    rintro ρ h J hJ ⟨e4, e11, k, l, q, e12, hk, hlk, hfit, hql, hC, S⟩
    (try simp (disch := first | omega | assumption | exact Nat.le_of_ble_eq_true rfl) only [go_sem, ↓mwp_block, Nat.reduceEqDiff, Nat.reduceAdd, Nat.reduceMul, Nat.reduceSub, Nat.reduceLeDiff, Nat.reduceLT, reduceIte, Int.reduceLT, Int.reduceLE, Int.reduceAdd, Int.reduceSub, Int.reduceMul, Int.reduceEq, Int.reduceToNat, Int.reduceNeg, Int.reduceNe, e11, e12])
    refine cond_dec (fun hg => ?_) (fun hg => ?_)
    · (try simp (disch := first | omega | assumption | exact Nat.le_of_ble_eq_true rfl) only [go_sem, ↓mwp_block, Nat.reduceEqDiff, Nat.reduceAdd, Nat.reduceMul, Nat.reduceSub, Nat.reduceLeDiff, Nat.reduceLT, reduceIte, Int.reduceLT, Int.reduceLE, Int.reduceAdd, Int.reduceSub, Int.reduceMul, Int.reduceEq, Int.reduceToNat, Int.reduceNeg, Int.reduceNe, e4])
      refine call_intro (policy_ok S.p1 (by omega)) ?_
      rintro _ h ⟨rfl, S⟩
      (try simp (disch := first | omega | assumption | exact Nat.le_of_ble_eq_true rfl) only [go_sem, ↓mwp_block, Nat.reduceEqDiff, Nat.reduceAdd, Nat.reduceMul, Nat.reduceSub, Nat.reduceLeDiff, Nat.reduceLT, reduceIte, Int.reduceLT, Int.reduceLE, Int.reduceAdd, Int.reduceSub, Int.reduceMul, Int.reduceEq, Int.reduceToNat, Int.reduceNeg, Int.reduceNe])
      (refine st_alloc S ?_; clear S; intro g h S; (try simp only [splice_cons, splice_nil, List.set_cons_zero, List.set_cons_succ, Nat.zero_add, Nat.reduceAdd, List.cons_append, List.nil_append] at S); ((try clear F); have F := S.all; (try simp only [all_cons, all_nil, says_cell, and_true] at F)))
      (try simp (disch := first | omega | assumption | exact Nat.le_of_ble_eq_true rfl) only [go_sem, ↓mwp_block, Nat.reduceEqDiff, Nat.reduceAdd, Nat.reduceMul, Nat.reduceSub, Nat.reduceLeDiff, Nat.reduceLT, reduceIte, Int.reduceLT, Int.reduceLE, Int.reduceAdd, Int.reduceSub, Int.reduceMul, Int.reduceEq, Int.reduceToNat, Int.reduceNeg, Int.reduceNe, Pol.enc])
      (refine st_store (by first | exact S | exact S.p1 | exact S.p2 | exact S.p3 | exact S.p4 | exact S.p5 | exact S.p6 | exact S.p7 | exact S.p8 | exact S.p9 | exact S.p10 | exact S.p11) (by rfl) (by rfl) (Nat.le_of_ble_eq_true rfl) ?_; clear S; intro h S; (try simp only [splice_cons, splice_nil, List.set_cons_zero, List.set_cons_succ, Nat.zero_add, Nat.reduceAdd, List.cons_append, List.nil_append] at S); ((try clear F); have F := S.all; (try simp only [all_cons, all_nil, says_cell, and_true] at F)))
      (try simp (disch := first | omega | assumption | exact Nat.le_of_ble_eq_true rfl) only [go_sem, ↓mwp_block, Nat.reduceEqDiff, Nat.reduceAdd, Nat.reduceMul, Nat.reduceSub, Nat.reduceLeDiff, Nat.reduceLT, reduceIte, Int.reduceLT, Int.reduceLE, Int.reduceAdd, Int.reduceSub, Int.reduceMul, Int.reduceEq, Int.reduceToNat, Int.reduceNeg, Int.reduceNe])
      have hpf := polR_fits q
      have hq14 : (q14 q).1.length ≤ b.length ∧ (vl 1 (q1 q) ≤ 7 → ((2 ≤ b.length ∧ num (b.take 2) = cnt ∧ q14 q = (b.drop (2 + 23 * (k + 1)), false) ∧ 2 + 23 * (k + 1) ≤ b.length ∧ (l ++ [polR q]).flatMap Pol.bytes = (b.drop 2).take (23 * (k + 1))) ∨ (q14 q = ([], true) ∧ ¬ IsT b))) ∧ (¬ vl 1 (q1 q) ≤ 7 → ¬ IsT b) := by
        rcases hC with ⟨h2, hn, rfl, hle, hfl⟩ | ⟨rfl, hN⟩
        · by_cases h23 : 23 ≤ (b.drop (2 + 23 * k)).length
          · have hl23 := h23
            rw [List.length_drop] at hl23
            rw [q14_ok h23, List.drop_drop]
            refine ⟨by simp, fun h7 => .inl ⟨h2, hn, by rw [show 2 + 23 * k + 23 = 2 + 23 * (k + 1) by omega], by omega, ?_⟩, fun h7 hT => ?_⟩
            · rw [List.flatMap_append, hfl, List.flatMap_cons, List.flatMap_nil, List.append_nil, polR_bytes h23 h7, ← List.drop_drop, show 23 * (k + 1) = 23 * k + 23 by omega, List.take_add]
            · obtain ⟨m, hR, he⟩ := hT
              have hm := isT_cnt he hR.1
              have hkm : k < m.length := by have := hm.2.1; omega
              refine h7 (flag_of_bytes (p := m[k]) ?_ h23)
              rw [← flat_chunk m k hkm, ← List.drop_drop, ← he, encT]
              congr 2
          · have hN : ¬ IsT b := by
              rintro ⟨m, hR, he⟩
              have hm := isT_cnt he hR.1
              have : m.length = cnt := by have := hm.2.1; omega
              rw [List.length_drop] at h23
              omega
            rw [q14_no (by omega)]
            exact ⟨by simp, fun _ => .inr ⟨rfl, hN⟩, fun _ => hN⟩
        · rw [q14_bad]
          exact ⟨by simp, fun _ => .inr ⟨rfl, hN⟩, fun _ => hN⟩
      obtain ⟨hq1, hq2, hq3⟩ := hq14
      refine cond_decn (fun h7 => ?_) (fun h7 => ?_)
      · (try simp (disch := first | omega | assumption | exact Nat.le_of_ble_eq_true rfl) only [go_sem, ↓mwp_block, Nat.reduceEqDiff, Nat.reduceAdd, Nat.reduceMul, Nat.reduceSub, Nat.reduceLeDiff, Nat.reduceLT, reduceIte, Int.reduceLT, Int.reduceLE, Int.reduceAdd, Int.reduceSub, Int.reduceMul, Int.reduceEq, Int.reduceToNat, Int.reduceNeg, Int.reduceNe])
        exact hK _ _ (.inr ⟨hq3 h7, rfl, S.tl.tl.tl⟩)
      · (try simp (disch := first | omega | assumption | exact Nat.le_of_ble_eq_true rfl) only [go_sem, ↓mwp_block, Nat.reduceEqDiff, Nat.reduceAdd, Nat.reduceMul, Nat.reduceSub, Nat.reduceLeDiff, Nat.reduceLT, reduceIte, Int.reduceLT, Int.reduceLE, Int.reduceAdd, Int.reduceSub, Int.reduceMul, Int.reduceEq, Int.reduceToNat, Int.reduceNeg, Int.reduceNe, F])
        (refine st_alloc S ?_; clear S; intro w h S; (try simp only [splice_cons, splice_nil, List.set_cons_zero, List.set_cons_succ, Nat.zero_add, Nat.reduceAdd, List.cons_append, List.nil_append] at S); ((try clear F); have F := S.all; (try simp only [all_cons, all_nil, says_cell, and_true] at F)))
        (try simp (disch := first | omega | assumption | exact Nat.le_of_ble_eq_true rfl) only [go_sem, ↓mwp_block, Nat.reduceEqDiff, Nat.reduceAdd, Nat.reduceMul, Nat.reduceSub, Nat.reduceLeDiff, Nat.reduceLT, reduceIte, Int.reduceLT, Int.reduceLE, Int.reduceAdd, Int.reduceSub, Int.reduceMul, Int.reduceEq, Int.reduceToNat, Int.reduceNeg, Int.reduceNe])
        have hl16 : l.length ≤ 16 := by omega
        refine st_append1 (bytes := 112) (x := polR q) Pol.enc_len (by omega) Pol.enc_plain rfl (by rfl) (S.p3.p1) (by omega) (by omega) ?_
        clear S F
        intro v' h S
        (try simp (disch := first | omega | assumption | exact Nat.le_of_ble_eq_true rfl) only [go_sem, ↓mwp_block, Nat.reduceEqDiff, Nat.reduceAdd, Nat.reduceMul, Nat.reduceSub, Nat.reduceLeDiff, Nat.reduceLT, reduceIte, Int.reduceLT, Int.reduceLE, Int.reduceAdd, Int.reduceSub, Int.reduceMul, Int.reduceEq, Int.reduceToNat, Int.reduceNeg, Int.reduceNe, e4, e12])
        refine hJ _ _ ?_ ?_
        · (try simp (disch := first | omega | assumption | exact Nat.le_of_ble_eq_true rfl) only [go_sem, ↓mwp_block, Nat.reduceEqDiff, Nat.reduceAdd, Nat.reduceMul, Nat.reduceSub, Nat.reduceLeDiff, Nat.reduceLT, reduceIte, Int.reduceLT, Int.reduceLE, Int.reduceAdd, Int.reduceSub, Int.reduceMul, Int.reduceEq, Int.reduceToNat, Int.reduceNeg, Int.reduceNe, e4, e11, e12])
          refine ⟨k + 1, l ++ [polR q], q14 q, rfl, by omega, by simp [hlk], ?_, hq1, hq2 h7, ?_⟩
          · intro p hp
            rcases List.mem_append.1 hp with hp | hp
            · exact hfit p hp
            · simp at hp; rw [hp]; exact hpf
          · exact S.d1
        · (try simp (disch := first | omega | assumption | exact Nat.le_of_ble_eq_true rfl) only [go_sem, ↓mwp_block, Nat.reduceEqDiff, Nat.reduceAdd, Nat.reduceMul, Nat.reduceSub, Nat.reduceLeDiff, Nat.reduceLT, reduceIte, Int.reduceLT, Int.reduceLE, Int.reduceAdd, Int.reduceSub, Int.reduceMul, Int.reduceEq, Int.reduceToNat, Int.reduceNeg, Int.reduceNe, e12])
          omega
    · obtain rfl : k = cnt := by omega
      (try simp (disch := first | omega | assumption | exact Nat.le_of_ble_eq_true rfl) only [go_sem, ↓mwp_block, Nat.reduceEqDiff, Nat.reduceAdd, Nat.reduceMul, Nat.reduceSub, Nat.reduceLeDiff, Nat.reduceLT, reduceIte, Int.reduceLT, Int.reduceLE, Int.reduceAdd, Int.reduceSub, Int.reduceMul, Int.reduceEq, Int.reduceToNat, Int.reduceNeg, Int.reduceNe, e4])
      refine call_intro (Done_ok S.p1) ?_
      rintro _ _ ⟨rfl, rfl⟩
      by_cases hd : q.2 = false ∧ q.1 = []
      · obtain ⟨P5, c5, e5⟩ := S.sl
        rw [e5] at S
        (try simp (disch := first | omega | assumption | exact Nat.le_of_ble_eq_true rfl) only [go_sem, ↓mwp_block, Nat.reduceEqDiff, Nat.reduceAdd, Nat.reduceMul, Nat.reduceSub, Nat.reduceLeDiff, Nat.reduceLT, reduceIte, Int.reduceLT, Int.reduceLE, Int.reduceAdd, Int.reduceSub, Int.reduceMul, Int.reduceEq, Int.reduceToNat, Int.reduceNeg, Int.reduceNe, e5])
        refine call_intro (Right_ok (S.arr Pol.enc_len) rfl (by omega)) ?_
        rintro _ h ⟨rfl, hf⟩
        have S := S.frame hf
        rcases hC with ⟨h2, hn, rfl, hle, hfl⟩ | ⟨rfl, hN⟩
        · have hbl : b.length = 2 + 23 * k := by
            have h1 : b.drop (2 + 23 * k) = [] := hd.2
            have h2 := congrArg List.length h1
            rw [List.length_drop, List.length_nil] at h2
            omega
          have henc : encT l = b := by
            have e2 : (b.drop 2).take (23 * k) = b.drop 2 := List.take_of_length_le (by rw [List.length_drop]; omega)
            rw [encT, hfl, hlk, ← hn, le_num_n _ 2 (by simp; omega), e2, List.take_append_drop]
          by_cases hR : RightT l
          · (try simp (disch := first | omega | assumption | exact Nat.le_of_ble_eq_true rfl) only [go_sem, ↓mwp_block, Nat.reduceEqDiff, Nat.reduceAdd, Nat.reduceMul, Nat.reduceSub, Nat.reduceLeDiff, Nat.reduceLT, reduceIte, Int.reduceLT, Int.reduceLE, Int.reduceAdd, Int.reduceSub, Int.reduceMul, Int.reduceEq, Int.reduceToNat, Int.reduceNeg, Int.reduceNe, e5])
            exact hK _ _ (.inl ⟨l, _, hR, henc, rfl, S.d1⟩)
          · (try simp (disch := first | omega | assumption | exact Nat.le_of_ble_eq_true rfl) only [go_sem, ↓mwp_block, Nat.reduceEqDiff, Nat.reduceAdd, Nat.reduceMul, Nat.reduceSub, Nat.reduceLeDiff, Nat.reduceLT, reduceIte, Int.reduceLT, Int.reduceLE, Int.reduceAdd, Int.reduceSub, Int.reduceMul, Int.reduceEq, Int.reduceToNat, Int.reduceNeg, Int.reduceNe])
            refine hK _ _ (.inr ⟨?_, rfl, S.tl.tl⟩)
            rintro ⟨m, hm, he⟩
            have : m = l := encT_inj (fun p hp => Pol.right_fits (hm.2 p hp)) hfit (by rw [he, henc])
            exact hR (this ▸ hm)
        · exact absurd hd.1 (by simp)
      · (try simp (disch := first | omega | assumption | exact Nat.le_of_ble_eq_true rfl) only [go_sem, ↓mwp_block, Nat.reduceEqDiff, Nat.reduceAdd, Nat.reduceMul, Nat.reduceSub, Nat.reduceLeDiff, Nat.reduceLT, reduceIte, Int.reduceLT, Int.reduceLE, Int.reduceAdd, Int.reduceSub, Int.reduceMul, Int.reduceEq, Int.reduceToNat, Int.reduceNeg, Int.reduceNe])
        refine hK _ _ (.inr ⟨?_, rfl, S.tl.tl⟩)
        rcases hC with ⟨h2, hn, rfl, hle, hfl⟩ | ⟨rfl, hN⟩
        · rintro ⟨m, hm, he⟩
          have h3 := isT_cnt he hm.1
          have : m.length = k := by have := h3.2.1; omega
          exact hd ⟨rfl, List.drop_of_length_le (by omega)⟩
        · exact hN

theorem EqualP_ok {A B : Option Addr} {c d : Nat} {xs : List Pol} {h : Heap} (ha : Arr Pol.enc 16 h A xs) (hb : Arr Pol.enc 16 h B xs) (hl : xs.length < 1000000000) :
    CallsH Try.prog 81 [.slice A xs.length c, .slice B xs.length d] h fun v h' => v = .bool true ∧ h' = h := by
  (refine enterK c_slices_Equal_api_Policy_api_Policy (Nat.le_of_ble_eq_true rfl) fun K hK => ?_; (try simp (disch := first | omega | assumption | exact Nat.le_of_ble_eq_true rfl) only [go_sem, ↓mwp_block, Nat.reduceEqDiff, Nat.reduceAdd, Nat.reduceMul, Nat.reduceSub, Nat.reduceLeDiff, Nat.reduceLT, reduceIte, Int.reduceLT, Int.reduceLE, Int.reduceAdd, Int.reduceSub, Int.reduceMul, Int.reduceEq, Int.reduceToNat, Int.reduceNeg, Int.reduceNe, ir_slices_Equal_api_Policy_api_Policy]))
  refine loop_intro (fun ρ h' => h' = h ∧ ρ 0 = .slice A xs.length c ∧ ρ 1 = .slice B xs.length d ∧ ρ 12 = .int .i64 xs.length ∧ ∃ i : Nat, ρ 13 = .int .i64 i ∧ i ≤ xs.length) (fun ρ _ => xs.length - (iv (ρ 13)).toNat) ?_ ?_
  · (try simp (disch := first | omega | assumption | exact Nat.le_of_ble_eq_true rfl) only [go_sem, ↓mwp_block, Nat.reduceEqDiff, Nat.reduceAdd, Nat.reduceMul, Nat.reduceSub, Nat.reduceLeDiff, Nat.reduceLT, reduceIte, Int.reduceLT, Int.reduceLE, Int.reduceAdd, Int.reduceSub, Int.reduceMul, Int.reduceEq, Int.reduceToNat, Int.reduceNeg, Int.reduceNe])
    exact ⟨0, rfl, Nat.zero_le _⟩
  · rintro ρ h' J hJ ⟨hh, e0, e1, e12, i, e13, hi⟩
    subst hh
    (try simp (disch := first | omega | assumption | exact Nat.le_of_ble_eq_true rfl) only [go_sem, ↓mwp_block, Nat.reduceEqDiff, Nat.reduceAdd, Nat.reduceMul, Nat.reduceSub, Nat.reduceLeDiff, Nat.reduceLT, reduceIte, Int.reduceLT, Int.reduceLE, Int.reduceAdd, Int.reduceSub, Int.reduceMul, Int.reduceEq, Int.reduceToNat, Int.reduceNeg, Int.reduceNe, e12, e13])
    refine cond_dec (fun hg => ?_) (fun hg => ?_)
    · have hi1 : i < xs.length := by omega
      obtain ⟨b, off, rfl, hr1⟩ := ha.at hi1
      obtain ⟨b', off', rfl, hr2⟩ := hb.at hi1
      (try simp (disch := first | omega | assumption | exact Nat.le_of_ble_eq_true rfl) only [go_sem, ↓mwp_block, Nat.reduceEqDiff, Nat.reduceAdd, Nat.reduceMul, Nat.reduceSub, Nat.reduceLeDiff, Nat.reduceLT, reduceIte, Int.reduceLT, Int.reduceLE, Int.reduceAdd, Int.reduceSub, Int.reduceMul, Int.reduceEq, Int.reduceToNat, Int.reduceNeg, Int.reduceNe, e0, e1, e13])
      refine draw_eq ?_
      (try simp (disch := first | omega | assumption | exact Nat.le_of_ble_eq_true rfl) only [go_sem, ↓mwp_block, Nat.reduceEqDiff, Nat.reduceAdd, Nat.reduceMul, Nat.reduceSub, Nat.reduceLeDiff, Nat.reduceLT, reduceIte, Int.reduceLT, Int.reduceLE, Int.reduceAdd, Int.reduceSub, Int.reduceMul, Int.reduceEq, Int.reduceToNat, Int.reduceNeg, Int.reduceNe, e0, e1, e13, hr1, hr2, Pol.enc, beq_self_eq_true])
      refine hJ _ _ ?_ ?_
      · (try simp (disch := first | omega | assumption | exact Nat.le_of_ble_eq_true rfl) only [go_sem, ↓mwp_block, Nat.reduceEqDiff, Nat.reduceAdd, Nat.reduceMul, Nat.reduceSub, Nat.reduceLeDiff, Nat.reduceLT, reduceIte, Int.reduceLT, Int.reduceLE, Int.reduceAdd, Int.reduceSub, Int.reduceMul, Int.reduceEq, Int.reduceToNat, Int.reduceNeg, Int.reduceNe, e0, e1, e12, e13])
        exact ⟨i + 1, rfl, by omega⟩
      · (try simp (disch := first | omega | assumption | exact Nat.le_of_ble_eq_true rfl) only [go_sem, ↓mwp_block, Nat.reduceEqDiff, Nat.reduceAdd, Nat.reduceMul, Nat.reduceSub, Nat.reduceLeDiff, Nat.reduceLT, reduceIte, Int.reduceLT, Int.reduceLE, Int.reduceAdd, Int.reduceSub, Int.reduceMul, Int.reduceEq, Int.reduceToNat, Int.reduceNeg, Int.reduceNe, e13])
        omega
    · (try simp (disch := first | omega | assumption | exact Nat.le_of_ble_eq_true rfl) only [go_sem, ↓mwp_block, Nat.reduceEqDiff, Nat.reduceAdd, Nat.reduceMul, Nat.reduceSub, Nat.reduceLeDiff, Nat.reduceLT, reduceIte, Int.reduceLT, Int.reduceLE, Int.reduceAdd, Int.reduceSub, Int.reduceMul, Int.reduceEq, Int.reduceToNat, Int.reduceNeg, Int.reduceNe])
      exact hK _ _ ⟨rfl, rfl⟩
theorem Equal_ok {A B : Option Addr} {c d : Nat} {xs : List Pol} {h : Heap} (ha : Arr Pol.enc 16 h A xs) (hb : Arr Pol.enc 16 h B xs) (hl : xs.length < 1000000000) :
    CallsH Try.prog 48 [.slice A xs.length c, .slice B xs.length d] h fun v h' => v = .bool true ∧ h' = h := by
  (refine enterK c_table_Equal (Nat.le_of_ble_eq_true rfl) fun K hK => ?_; (try simp (disch := first | omega | assumption | exact Nat.le_of_ble_eq_true rfl) only [go_sem, ↓mwp_block, Nat.reduceEqDiff, Nat.reduceAdd, Nat.reduceMul, Nat.reduceSub, Nat.reduceLeDiff, Nat.reduceLT, reduceIte, Int.reduceLT, Int.reduceLE, Int.reduceAdd, Int.reduceSub, Int.reduceMul, Int.reduceEq, Int.reduceToNat, Int.reduceNeg, Int.reduceNe, ir_table_Equal]))
  refine call_intro (EqualP_ok ha hb hl) ?_
  rintro _ _ ⟨rfl, rfl⟩
  (try simp (disch := first | omega | assumption | exact Nat.le_of_ble_eq_true rfl) only [go_sem, ↓mwp_block, Nat.reduceEqDiff, Nat.reduceAdd, Nat.reduceMul, Nat.reduceSub, Nat.reduceLeDiff, Nat.reduceLT, reduceIte, Int.reduceLT, Int.reduceLE, Int.reduceAdd, Int.reduceSub, Int.reduceMul, Int.reduceEq, Int.reduceToNat, Int.reduceNeg, Int.reduceNe])
  exact hK _ _ ⟨rfl, rfl⟩
theorem TableBack_ok (A : Option Addr) (c : Nat) (xs : List Pol) (h : Heap) (ha : Arr Pol.enc 16 h A xs) (_ : xs.length ≤ c) (_ : c ≤ maxLen) (hok : ∀ x ∈ xs, x.ok) :
    CallsH Try.prog 12 [.slice A xs.length c] h fun v h' => v = .bool true ∧ Fr h h' [] := by
  have S := St.nil h
  (refine enterK c_recouplaw08_TableBack (Nat.le_of_ble_eq_true rfl) fun K hK => ?_; (try simp (disch := first | omega | assumption | exact Nat.le_of_ble_eq_true rfl) only [go_sem, ↓mwp_block, Nat.reduceEqDiff, Nat.reduceAdd, Nat.reduceMul, Nat.reduceSub, Nat.reduceLeDiff, Nat.reduceLT, reduceIte, Int.reduceLT, Int.reduceLE, Int.reduceAdd, Int.reduceSub, Int.reduceMul, Int.reduceEq, Int.reduceToNat, Int.reduceNeg, Int.reduceNe, ir_recouplaw08_TableBack]))
  refine call_intro (awake08_ok _) ?_
  rintro _ h1 ⟨rfl, hf⟩
  have S := S.frame hf
  (try simp (disch := first | omega | assumption | exact Nat.le_of_ble_eq_true rfl) only [go_sem, ↓mwp_block, Nat.reduceEqDiff, Nat.reduceAdd, Nat.reduceMul, Nat.reduceSub, Nat.reduceLeDiff, Nat.reduceLT, reduceIte, Int.reduceLT, Int.reduceLE, Int.reduceAdd, Int.reduceSub, Int.reduceMul, Int.reduceEq, Int.reduceToNat, Int.reduceNeg, Int.reduceNe])
  refine cond_dec (fun hg => ?_) (fun hg => ?_)
  · (try simp (disch := first | omega | assumption | exact Nat.le_of_ble_eq_true rfl) only [go_sem, ↓mwp_block, Nat.reduceEqDiff, Nat.reduceAdd, Nat.reduceMul, Nat.reduceSub, Nat.reduceLeDiff, Nat.reduceLT, reduceIte, Int.reduceLT, Int.reduceLE, Int.reduceAdd, Int.reduceSub, Int.reduceMul, Int.reduceEq, Int.reduceToNat, Int.reduceNeg, Int.reduceNe])
    refine call_intro (awake08_ok _) ?_
    rintro _ h2 ⟨rfl, hf⟩
    (try simp (disch := first | omega | assumption | exact Nat.le_of_ble_eq_true rfl) only [go_sem, ↓mwp_block, Nat.reduceEqDiff, Nat.reduceAdd, Nat.reduceMul, Nat.reduceSub, Nat.reduceLeDiff, Nat.reduceLT, reduceIte, Int.reduceLT, Int.reduceLE, Int.reduceAdd, Int.reduceSub, Int.reduceMul, Int.reduceEq, Int.reduceToNat, Int.reduceNeg, Int.reduceNe])
    exact hK _ _ ⟨rfl, (S.frame hf).fr⟩
  · (try simp (disch := first | omega | assumption | exact Nat.le_of_ble_eq_true rfl) only [go_sem, ↓mwp_block, Nat.reduceEqDiff, Nat.reduceAdd, Nat.reduceMul, Nat.reduceSub, Nat.reduceLeDiff, Nat.reduceLT, reduceIte, Int.reduceLT, Int.reduceLE, Int.reduceAdd, Int.reduceSub, Int.reduceMul, Int.reduceEq, Int.reduceToNat, Int.reduceNeg, Int.reduceNe])
    refine call_intro (Encode_ok S (fun h' S => ha.fr S.fr (by simp)) (by omega)) ?_
    rintro _ h ⟨s, e, rfl, hor⟩
    rcases hor with ⟨hr, rfl, S⟩ | ⟨hr, rfl, rfl, S⟩
    · obtain ⟨B, d, rfl⟩ := S.sl
      (try simp (disch := first | omega | assumption | exact Nat.le_of_ble_eq_true rfl) only [go_sem, ↓mwp_block, Nat.reduceEqDiff, Nat.reduceAdd, Nat.reduceMul, Nat.reduceSub, Nat.reduceLeDiff, Nat.reduceLT, reduceIte, Int.reduceLT, Int.reduceLE, Int.reduceAdd, Int.reduceSub, Int.reduceMul, Int.reduceEq, Int.reduceToNat, Int.reduceNeg, Int.reduceNe])
      refine call_intro (Decode_ok S (S.arr bEnc_len) (by rw [encT_len]; omega)) ?_
      rintro _ h (⟨l, s, hR, he, rfl, S⟩ | ⟨hN, rfl, S⟩)
      · obtain rfl : l = xs := encT_inj (fun p hp => Pol.right_fits (hR.2 p hp)) (fun p hp => Pol.right_fits (hr.2 p hp)) he
        obtain ⟨B2, d2, rfl⟩ := S.sl
        (try simp (disch := first | omega | assumption | exact Nat.le_of_ble_eq_true rfl) only [go_sem, ↓mwp_block, Nat.reduceEqDiff, Nat.reduceAdd, Nat.reduceMul, Nat.reduceSub, Nat.reduceLeDiff, Nat.reduceLT, reduceIte, Int.reduceLT, Int.reduceLE, Int.reduceAdd, Int.reduceSub, Int.reduceMul, Int.reduceEq, Int.reduceToNat, Int.reduceNeg, Int.reduceNe])
        refine call_intro (Equal_ok (ha.fr S.fr (by simp)) (S.arr Pol.enc_len) (by omega)) ?_
        rintro _ _ ⟨rfl, rfl⟩
        (try simp (disch := first | omega | assumption | exact Nat.le_of_ble_eq_true rfl) only [go_sem, ↓mwp_block, Nat.reduceEqDiff, Nat.reduceAdd, Nat.reduceMul, Nat.reduceSub, Nat.reduceLeDiff, Nat.reduceLT, reduceIte, Int.reduceLT, Int.reduceLE, Int.reduceAdd, Int.reduceSub, Int.reduceMul, Int.reduceEq, Int.reduceToNat, Int.reduceNeg, Int.reduceNe])
        exact hK _ _ ⟨rfl, S.fr⟩
      · exact absurd ⟨xs, hr, rfl⟩ hN
    · (try simp (disch := first | omega | assumption | exact Nat.le_of_ble_eq_true rfl) only [go_sem, ↓mwp_block, Nat.reduceEqDiff, Nat.reduceAdd, Nat.reduceMul, Nat.reduceSub, Nat.reduceLeDiff, Nat.reduceLT, reduceIte, Int.reduceLT, Int.reduceLE, Int.reduceAdd, Int.reduceSub, Int.reduceMul, Int.reduceEq, Int.reduceToNat, Int.reduceNeg, Int.reduceNe])
      exact hK _ _ ⟨rfl, S.fr⟩
end Go.Proofs.Ytackopkhelochaa.MX
