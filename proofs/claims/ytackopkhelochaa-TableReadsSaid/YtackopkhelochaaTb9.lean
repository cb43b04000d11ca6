/- Whether bytes are a right table's, as the document reads them; the law TableReads. -/
import Derived.Test.YtackopkhelochaaTb8
import Derived.Test.YtackopkhelochaaBy3
namespace Go.Proofs.Ytackopkhelochaa.MX
open Go Go.Proofs
set_option linter.unusedSimpArgs false
set_option linter.unusedVariables false

theorem band8 {n : Int} {m : Nat} (h0 : 0 ≤ n) (h1 : n < 256) (hm : m < 256) : binV .and (.int .u8 n) (.int .u8 (m : Int)) = some (.int .u8 ((n.toNat &&& m : Nat) : Int)) := by
  have e1 : (BitVec.ofInt IntKind.u8.bits n).toNat = n.toNat := by
    rw [BitVec.toNat_ofInt]
    have : ((2 ^ IntKind.u8.bits : Nat) : Int) = 256 := rfl
    rw [this, Int.emod_eq_of_lt h0 (by omega)]
  have e2 : (BitVec.ofInt IntKind.u8.bits (m : Int)).toNat = m := by
    rw [BitVec.toNat_ofInt]
    have : ((2 ^ IntKind.u8.bits : Nat) : Int) = 256 := rfl
    rw [this, Int.emod_eq_of_lt (by omega) (by omega)]
    rfl
  have h2 : n.toNat &&& m ≤ m := Nat.and_le_right
  rw [bin_and, BitVec.toNat_and, e1, e2, wrap_u8 (by omega) (by omega)]
theorem fb_one (m : Nat) (hm : m = 1 ∨ m = 2 ∨ m = 4) (n : Nat) (hn : n < 256) : dcd (((n &&& m : Nat) : Int) = (m : Int)) = fb m n := by
  have key : ∀ n : Fin 256, ((n.val &&& 1) = 1 ↔ ¬ (n.val &&& 1) = 0) ∧ ((n.val &&& 2) = 2 ↔ ¬ (n.val &&& 2) = 0) ∧ ((n.val &&& 4) = 4 ↔ ¬ (n.val &&& 4) = 0) := by decide +kernel
  have k := key ⟨n, hn⟩
  simp only at k
  have h2 : (n &&& m) = m ↔ ¬ (n &&& m) = 0 := by
    rcases hm with rfl | rfl | rfl
    · exact k.1
    · exact k.2.1
    · exact k.2.2
  unfold fb
  rw [Int.toNat_natCast]
  by_cases h : (n &&& m) = 0
  · rw [dcd_false (fun he => h2.1 (by omega) h), decide_eq_true h]
    rfl
  · rw [dcd_true (by have := h2.2 h; omega), decide_eq_false h]
    rfl

/-- The reading of 23 bytes at a place. -/
theorem chunk_vals {b : List UInt8} {i : Nat} (h : i + 23 ≤ b.length) :
    polR (b.drop i, false) = ⟨num ((b.drop i).take 2), fb 1 (b[i + 2]'(by omega)).toNat, fb 2 (b[i + 2]'(by omega)).toNat, fb 4 (b[i + 2]'(by omega)).toNat,
      num ((b.drop (i + 3)).take 2), num ((b.drop (i + 5)).take 2), num ((b.drop (i + 7)).take 2), num ((b.drop (i + 9)).take 2),
      num ((b.drop (i + 11)).take 2), (b[i + 13]'(by omega)).toNat, num ((b.drop (i + 14)).take 2), (b[i + 16]'(by omega)).toNat,
      num ((b.drop (i + 17)).take 2), (b[i + 19]'(by omega)).toNat, num ((b.drop (i + 20)).take 2), (b[i + 22]'(by omega)).toNat⟩ ∧ vl 1 (q1 (b.drop i, false)) = (b[i + 2]'(by omega)).toNat := by
  have h23 : 23 ≤ (b.drop i).length := by rw [List.length_drop]; omega
  have one : ∀ m, (hm : m < b.length) → num ((b.drop m).take 1) = (b[m]).toNat := fun m hm => by
    rw [List.drop_eq_getElem_cons hm, List.take_succ_cons, List.take_zero, num, num]
    omega
  have e0 : vl 2 (b.drop i, false) = _ := q_at [] (by simp) 2 (by simp at h23 ⊢; omega)
  have e1 : vl 1 (q1 (b.drop i, false)) = _ := q_at [2] (by simp at h23 ⊢; omega) 1 (by simp at h23 ⊢; omega)
  have e2 : vl 2 (q2 (b.drop i, false)) = _ := q_at [2, 1] (by simp at h23 ⊢; omega) 2 (by simp at h23 ⊢; omega)
  have e3 : vl 2 (q3 (b.drop i, false)) = _ := q_at [2, 1, 2] (by simp at h23 ⊢; omega) 2 (by simp at h23 ⊢; omega)
  have e4 : vl 2 (q4 (b.drop i, false)) = _ := q_at [2, 1, 2, 2] (by simp at h23 ⊢; omega) 2 (by simp at h23 ⊢; omega)
  have e5 : vl 2 (q5 (b.drop i, false)) = _ := q_at [2, 1, 2, 2, 2] (by simp at h23 ⊢; omega) 2 (by simp at h23 ⊢; omega)
  have e6 : vl 2 (q6 (b.drop i, false)) = _ := q_at [2, 1, 2, 2, 2, 2] (by simp at h23 ⊢; omega) 2 (by simp at h23 ⊢; omega)
  have e7 : vl 1 (q7 (b.drop i, false)) = _ := q_at [2, 1, 2, 2, 2, 2, 2] (by simp at h23 ⊢; omega) 1 (by simp at h23 ⊢; omega)
  have e8 : vl 2 (q8 (b.drop i, false)) = _ := q_at [2, 1, 2, 2, 2, 2, 2, 1] (by simp at h23 ⊢; omega) 2 (by simp at h23 ⊢; omega)
  have e9 : vl 1 (q9 (b.drop i, false)) = _ := q_at [2, 1, 2, 2, 2, 2, 2, 1, 2] (by simp at h23 ⊢; omega) 1 (by simp at h23 ⊢; omega)
  have e10 : vl 2 (q10 (b.drop i, false)) = _ := q_at [2, 1, 2, 2, 2, 2, 2, 1, 2, 1] (by simp at h23 ⊢; omega) 2 (by simp at h23 ⊢; omega)
  have e11 : vl 1 (q11 (b.drop i, false)) = _ := q_at [2, 1, 2, 2, 2, 2, 2, 1, 2, 1, 2] (by simp at h23 ⊢; omega) 1 (by simp at h23 ⊢; omega)
  have e12 : vl 2 (q12 (b.drop i, false)) = _ := q_at [2, 1, 2, 2, 2, 2, 2, 1, 2, 1, 2, 1] (by simp at h23 ⊢; omega) 2 (by simp at h23 ⊢; omega)
  have e13 : vl 1 (q13 (b.drop i, false)) = _ := q_at [2, 1, 2, 2, 2, 2, 2, 1, 2, 1, 2, 1, 2] (by simp at h23 ⊢; omega) 1 (by simp at h23 ⊢; omega)
  simp only [List.sum_cons, List.sum_nil, Nat.reduceAdd, Nat.add_zero, List.drop_zero, List.drop_drop] at e0 e1 e2 e3 e4 e5 e6 e7 e8 e9 e10 e11 e12 e13
  rw [one (i + 2) (by omega)] at e1
  rw [one (i + 13) (by omega)] at e7
  rw [one (i + 16) (by omega)] at e9
  rw [one (i + 19) (by omega)] at e11
  rw [one (i + 22) (by omega)] at e13
  refine ⟨?_, e1⟩
  simp only [polR, e0, e1, e2, e3, e4, e5, e6, e7, e8, e9, e10, e11, e12, e13]

theorem Number_at {h : Heap} {bk off : Nat} {b : List UInt8} (ha : Arr bEnc 1 h (some ⟨bk, off, none⟩) b) (m : Nat) {e n c : Nat} (he : e = off + m) (hm : m + 2 ≤ b.length) (hn : n = 2) :
    CallsH Try.prog 71 [.slice (some ⟨bk, e, none⟩) n c] h fun v h' => v = .int .u64 (num ((b.drop m).take 2)) ∧ h' = h := by
  subst he hn
  exact Number2_ok (arr_take (arr_drop ha m) 2) (by simp; omega) (by simp; omega)
/-- A region that draws its order, cut behind it: what follows is shown once. -/
theorem draw_st_join {P : Program} {Q : MExit → Env → Heap → Prop} {ρ : Env} {h0 h : Heap} {L : List HP} {l : List MOper} {s : Sch} {t1 : Tag l} {t2 : Tag s} {t3 : Tag Q} {t4 : Tag ρ} {t5 : Tag h} (S : St h0 h L) (I : Env → Heap → Prop)
    (hw : ∀ J : Env → Heap → Prop, (∀ ρ h, I ρ h → J ρ h) → schT P (fun h' => St h0 h' L) l J s ρ h) (hT : ∀ ρ h, I ρ h → Q .normal ρ h) : drawT P l s Q ρ h t1 t2 t3 t4 t5 := ⟨_, S, hw _ hT⟩
/-- Two bytes at a place, as a slice. -/
theorem arr_two {h : Heap} {bk off : Nat} {b : List UInt8} (ha : Arr bEnc 1 h (some ⟨bk, off, none⟩) b) {m : Nat} (hm : m + 2 ≤ b.length) : Arr bEnc 1 h (some ⟨bk, off + m, none⟩) ((b.drop m).take 2) ∧ ((b.drop m).take 2).length = 2 :=
  ⟨arr_take (arr_drop ha m) 2, by simp; omega⟩
theorem num_two (l : List UInt8) (h : l.length = 2) : 0 ≤ num l ∧ num l < 65536 := by
  have := num_lt l
  rw [h] at this
  exact ⟨num_nonneg l, by simpa using this⟩

/-- A policy of which the first k fees and grades are there. -/
def partP (p : Pol) (k : Nat) : List Value := [.int .i64 p.w, .bool p.fin, .bool p.exc, .bool p.cre, .int .i64 (if 0 < k then p.f0 else 0), .int .i64 (if 1 < k then p.f1 else 0), .int .i64 (if 2 < k then p.f2 else 0), .int .i64 (if 3 < k then p.f3 else 0),
  .int .i64 (if 0 < k then p.s0 else 0), .int .i64 (if 0 < k then p.t0 else 0), .int .i64 (if 1 < k then p.s1 else 0), .int .i64 (if 1 < k then p.t1 else 0), .int .i64 (if 2 < k then p.s2 else 0), .int .i64 (if 2 < k then p.t2 else 0), .int .i64 (if 3 < k then p.s3 else 0), .int .i64 (if 3 < k then p.t3 else 0)]
set_option maxRecDepth 20000 in
set_option maxHeartbeats 8000000 in
theorem readable_ok {h0 h : Heap} {L : List HP} {A : Option Addr} {c : Nat} {b : List UInt8} (S : St h0 h L) (ha : Arr bEnc 1 h0 A b) (hc : b.length ≤ c) (hl : b.length < 100000) :
    CallsH Try.prog 41 [.slice A b.length c] h fun v h' => v = .bool (dcd (IsT b)) ∧ St h0 h' L := by
  (refine enterK c_recouplaw08_readable (Nat.le_of_ble_eq_true rfl) fun K hK => ?_; (try simp (disch := first | omega | assumption | exact Nat.le_of_ble_eq_true rfl) only [go_sem, ↓mwp_block, Nat.reduceEqDiff, Nat.reduceAdd, Nat.reduceMul, Nat.reduceSub, Nat.reduceLeDiff, Nat.reduceLT, reduceIte, Int.reduceLT, Int.reduceLE, Int.reduceAdd, Int.reduceSub, Int.reduceMul, Int.reduceEq, Int.reduceToNat, Int.reduceNeg, Int.reduceNe, ir_recouplaw08_readable]))
  by_cases h2 : b.length < 2
  · (try simp (disch := first | omega | assumption | exact Nat.le_of_ble_eq_true rfl) only [go_sem, ↓mwp_block, Nat.reduceEqDiff, Nat.reduceAdd, Nat.reduceMul, Nat.reduceSub, Nat.reduceLeDiff, Nat.reduceLT, reduceIte, Int.reduceLT, Int.reduceLE, Int.reduceAdd, Int.reduceSub, Int.reduceMul, Int.reduceEq, Int.reduceToNat, Int.reduceNeg, Int.reduceNe])
    refine hK _ _ ⟨?_, S⟩
    rw [dcd_false]
    rintro ⟨l, hR, he⟩
    have := (isT_cnt he hR.1).1
    omega
  · obtain ⟨bk, off, rfl, _⟩ := ha 0 (by omega)
    have ha' : ∀ h', St h0 h' L → Arr bEnc 1 h' (some ⟨bk, off, none⟩) b := fun h' S => ha.fr S.fr (by simp)
    have htl : (b.take 2).length = 2 := by simp; omega
    have hn2 := num_two _ htl
    have hw : IntKind.i64.wrap (num (b.take 2)) = num (b.take 2) := wrap_i64 (by omega) (by omega)
    (try simp (disch := first | omega | assumption | exact Nat.le_of_ble_eq_true rfl) only [go_sem, ↓mwp_block, Nat.reduceEqDiff, Nat.reduceAdd, Nat.reduceMul, Nat.reduceSub, Nat.reduceLeDiff, Nat.reduceLT, reduceIte, Int.reduceLT, Int.reduceLE, Int.reduceAdd, Int.reduceSub, Int.reduceMul, Int.reduceEq, Int.reduceToNat, Int.reduceNeg, Int.reduceNe])
    refine call_intro (Number2_ok (ys := b.take 2) (arr_take (ha' _ S) 2) htl (by omega)) ?_
    rintro _ _ ⟨rfl, rfl⟩
    by_cases hcnt : (b.length : Int) = 2 + 23 * num (b.take 2)
    · (try simp (disch := first | omega | assumption | exact Nat.le_of_ble_eq_true rfl) only [go_sem, ↓mwp_block, Nat.reduceEqDiff, Nat.reduceAdd, Nat.reduceMul, Nat.reduceSub, Nat.reduceLeDiff, Nat.reduceLT, reduceIte, Int.reduceLT, Int.reduceLE, Int.reduceAdd, Int.reduceSub, Int.reduceMul, Int.reduceEq, Int.reduceToNat, Int.reduceNeg, Int.reduceNe, hw])
      refine loop_intro (fun ρ h' => ρ 0 = .slice (some ⟨bk, off, none⟩) b.length c ∧ ∃ (k : Nat) (l : List Pol), ρ 4 = .int .i64 ((2 + 23 * k : Nat) : Int) ∧ 2 + 23 * k ≤ b.length ∧ l.length = k ∧ (∀ p ∈ l, p.fits) ∧ l.flatMap Pol.bytes = (b.drop 2).take (23 * k) ∧ St h0 h' (ownA Pol.enc 16 41 (ρ 3) l :: L)) (fun ρ _ => b.length - (iv (ρ 4)).toNat) ?_ ?_
      · (try simp (disch := first | omega | assumption | exact Nat.le_of_ble_eq_true rfl) only [go_sem, ↓mwp_block, Nat.reduceEqDiff, Nat.reduceAdd, Nat.reduceMul, Nat.reduceSub, Nat.reduceLeDiff, Nat.reduceLT, reduceIte, Int.reduceLT, Int.reduceLE, Int.reduceAdd, Int.reduceSub, Int.reduceMul, Int.reduceEq, Int.reduceToNat, Int.reduceNeg, Int.reduceNe])
        exact ⟨0, [], rfl, by omega, rfl, by simp, by simp, S.nilS⟩
      · clear S
        rintro ρ h J hJ ⟨e0, k, l, e4, hk, hlk, hfit, hfl, S⟩
        generalize hi : 2 + 23 * k = i at e4 hk
        (try simp (disch := first | omega | assumption | exact Nat.le_of_ble_eq_true rfl) only [go_sem, ↓mwp_block, Nat.reduceEqDiff, Nat.reduceAdd, Nat.reduceMul, Nat.reduceSub, Nat.reduceLeDiff, Nat.reduceLT, reduceIte, Int.reduceLT, Int.reduceLE, Int.reduceAdd, Int.reduceSub, Int.reduceMul, Int.reduceEq, Int.reduceToNat, Int.reduceNeg, Int.reduceNe, e0, e4])
        refine cond_dec (fun hg => ?_) (fun hg => ?_)
        · have h23 : i + 23 ≤ b.length := by omega
          have hb := ha' _ S.tl
          obtain ⟨hcv, hcf⟩ := chunk_vals h23
          have rb : ∀ m, (hm : m < b.length) → ∀ h', St h0 h' L → rd1 h' (.pointer (some ⟨bk, off + m, none⟩)) = some (.int .u8 ((b[m]).toNat : Int)) := fun m hm h' S' => by
            obtain ⟨b', off', hA, hr⟩ := (ha' h' S').at hm
            cases hA
            have := rd1_part0 hr (by omega)
            simpa [bEnc] using this
          have t2 : ((i : Int) + 2).toNat = i + 2 := by omega
          have c1 : ((1 : Nat) : Int) = 1 := rfl
          have c2 : ((2 : Nat) : Int) = 2 := rfl
          have c4 : ((4 : Nat) : Int) = 4 := rfl
          have hxl := u8_lt b[i + 2]
          have n1 := band8 (n := (b[i + 2].toNat : Int)) (m := 1) (by omega) hxl (by decide)
          have n2 := band8 (n := (b[i + 2].toNat : Int)) (m := 2) (by omega) hxl (by decide)
          have n4 := band8 (n := (b[i + 2].toNat : Int)) (m := 4) (by omega) hxl (by decide)
          have g1 := fb_one 1 (by simp) b[i + 2].toNat (by omega)
          have g2 := fb_one 2 (by simp) b[i + 2].toNat (by omega)
          have g4 := fb_one 4 (by simp) b[i + 2].toNat (by omega)
          simp only [c1, c2, c4, Int.toNat_natCast] at n1 n2 n4 g1 g2 g4
          have r2 := fun K t => reads_of (K := K) (t := t) S.tl (rb (i + 2) (by omega))
          have A0 := arr_two hb (m := i) (by omega)
          have v0 := num_two _ A0.2
          have w0 : IntKind.i64.wrap (num ((b.drop i).take 2)) = num ((b.drop i).take 2) := wrap_i64 (by omega) (by omega)
          (try simp (disch := first | omega | assumption | exact Nat.le_of_ble_eq_true rfl) only [go_sem, ↓mwp_block, Nat.reduceEqDiff, Nat.reduceAdd, Nat.reduceMul, Nat.reduceSub, Nat.reduceLeDiff, Nat.reduceLT, reduceIte, Int.reduceLT, Int.reduceLE, Int.reduceAdd, Int.reduceSub, Int.reduceMul, Int.reduceEq, Int.reduceToNat, Int.reduceNeg, Int.reduceNe, e0, e4])
          refine draw_st_join S.tl (fun ρ' h' => ρ' 0 = .slice (some ⟨bk, off, none⟩) b.length c ∧ ρ' 4 = .int .i64 (i : Int) ∧ ∃ g, ρ' 5 = .pointer (some ⟨g, 0, none⟩) ∧
            St h0 h' (cellA g [.int .i64 (num ((b.drop i).take 2)), .bool (fb 1 (b[i + 2].toNat : Int)), .bool (fb 2 (b[i + 2].toNat : Int)), .bool (fb 4 (b[i + 2].toNat : Int)), .int .i64 0, .int .i64 0, .int .i64 0, .int .i64 0, .int .i64 0, .int .i64 0, .int .i64 0, .int .i64 0, .int .i64 0, .int .i64 0, .int .i64 0, .int .i64 0] 41 :: ownA Pol.enc 16 41 (ρ' 3) l :: L)) ?_ ?_
          · intro J3 hJ3
            (try simp (disch := first | omega | assumption | exact Nat.le_of_ble_eq_true rfl) only [go_sem, ↓mwp_block, Nat.reduceEqDiff, Nat.reduceAdd, Nat.reduceMul, Nat.reduceSub, Nat.reduceLeDiff, Nat.reduceLT, reduceIte, Int.reduceLT, Int.reduceLE, Int.reduceAdd, Int.reduceSub, Int.reduceMul, Int.reduceEq, Int.reduceToNat, Int.reduceNeg, Int.reduceNe, e0, e4, t2, Nat.mul_one, r2, n1, n2, n4, g1, g2, g4])
            refine ⟨?_, ?_⟩
            · refine call_intro (Number2_ok (ys := (b.drop i).take 2) A0.1 (by rw [A0.2]; omega) (by omega)) ?_
              rintro _ _ ⟨rfl, rfl⟩
              refine chk_st S.tl ?_
              (try simp (disch := first | omega | assumption | exact Nat.le_of_ble_eq_true rfl) only [go_sem, ↓mwp_block, Nat.reduceEqDiff, Nat.reduceAdd, Nat.reduceMul, Nat.reduceSub, Nat.reduceLeDiff, Nat.reduceLT, reduceIte, Int.reduceLT, Int.reduceLE, Int.reduceAdd, Int.reduceSub, Int.reduceMul, Int.reduceEq, Int.reduceToNat, Int.reduceNeg, Int.reduceNe, w0])
              (refine st_alloc S ?_; clear S; intro g h S; (try simp only [splice_cons, splice_nil, List.set_cons_zero, List.set_cons_succ, Nat.zero_add, Nat.reduceAdd, List.cons_append, List.nil_append] at S); ((try clear F); have F := S.all; (try simp only [all_cons, all_nil, says_cell, and_true] at F)))
              refine chk_st S.tl.tl ?_
              (try simp (disch := first | omega | assumption | exact Nat.le_of_ble_eq_true rfl) only [go_sem, ↓mwp_block, Nat.reduceEqDiff, Nat.reduceAdd, Nat.reduceMul, Nat.reduceSub, Nat.reduceLeDiff, Nat.reduceLT, reduceIte, Int.reduceLT, Int.reduceLE, Int.reduceAdd, Int.reduceSub, Int.reduceMul, Int.reduceEq, Int.reduceToNat, Int.reduceNeg, Int.reduceNe])
              (refine st_store (by first | exact S | exact S.p1 | exact S.p2 | exact S.p3 | exact S.p4 | exact S.p5 | exact S.p6 | exact S.p7 | exact S.p8 | exact S.p9 | exact S.p10 | exact S.p11) (by rfl) (by rfl) (Nat.le_of_ble_eq_true rfl) ?_; clear S; intro h S; (try simp only [splice_cons, splice_nil, List.set_cons_zero, List.set_cons_succ, Nat.zero_add, Nat.reduceAdd, List.cons_append, List.nil_append] at S); ((try clear F); have F := S.all; (try simp only [all_cons, all_nil, says_cell, and_true] at F)))
              (try simp (disch := first | omega | assumption | exact Nat.le_of_ble_eq_true rfl) only [go_sem, ↓mwp_block, Nat.reduceEqDiff, Nat.reduceAdd, Nat.reduceMul, Nat.reduceSub, Nat.reduceLeDiff, Nat.reduceLT, reduceIte, Int.reduceLT, Int.reduceLE, Int.reduceAdd, Int.reduceSub, Int.reduceMul, Int.reduceEq, Int.reduceToNat, Int.reduceNeg, Int.reduceNe])
              refine hJ3 _ _ ?_
              (try simp (disch := first | omega | assumption | exact Nat.le_of_ble_eq_true rfl) only [go_sem, ↓mwp_block, Nat.reduceEqDiff, Nat.reduceAdd, Nat.reduceMul, Nat.reduceSub, Nat.reduceLeDiff, Nat.reduceLT, reduceIte, Int.reduceLT, Int.reduceLE, Int.reduceAdd, Int.reduceSub, Int.reduceMul, Int.reduceEq, Int.reduceToNat, Int.reduceNeg, Int.reduceNe, e0, e4])
              exact ⟨g, rfl, S⟩
            · (refine st_alloc S ?_; clear S; intro g h S; (try simp only [splice_cons, splice_nil, List.set_cons_zero, List.set_cons_succ, Nat.zero_add, Nat.reduceAdd, List.cons_append, List.nil_append] at S); ((try clear F); have F := S.all; (try simp only [all_cons, all_nil, says_cell, and_true] at F)))
              refine chk_st S.tl.tl ?_
              (try simp (disch := first | omega | assumption | exact Nat.le_of_ble_eq_true rfl) only [go_sem, ↓mwp_block, Nat.reduceEqDiff, Nat.reduceAdd, Nat.reduceMul, Nat.reduceSub, Nat.reduceLeDiff, Nat.reduceLT, reduceIte, Int.reduceLT, Int.reduceLE, Int.reduceAdd, Int.reduceSub, Int.reduceMul, Int.reduceEq, Int.reduceToNat, Int.reduceNeg, Int.reduceNe])
              refine call_intro (Number2_ok (ys := (b.drop i).take 2) (arr_two (ha' _ S.tl.tl) (m := i) (by omega)).1 (by rw [A0.2]; omega) (by omega)) ?_
              rintro _ _ ⟨rfl, rfl⟩
              refine chk_st S.tl.tl ?_
              (try simp (disch := first | omega | assumption | exact Nat.le_of_ble_eq_true rfl) only [go_sem, ↓mwp_block, Nat.reduceEqDiff, Nat.reduceAdd, Nat.reduceMul, Nat.reduceSub, Nat.reduceLeDiff, Nat.reduceLT, reduceIte, Int.reduceLT, Int.reduceLE, Int.reduceAdd, Int.reduceSub, Int.reduceMul, Int.reduceEq, Int.reduceToNat, Int.reduceNeg, Int.reduceNe, w0])
              (refine st_store (by first | exact S | exact S.p1 | exact S.p2 | exact S.p3 | exact S.p4 | exact S.p5 | exact S.p6 | exact S.p7 | exact S.p8 | exact S.p9 | exact S.p10 | exact S.p11) (by rfl) (by rfl) (Nat.le_of_ble_eq_true rfl) ?_; clear S; intro h S; (try simp only [splice_cons, splice_nil, List.set_cons_zero, List.set_cons_succ, Nat.zero_add, Nat.reduceAdd, List.cons_append, List.nil_append] at S); ((try clear F); have F := S.all; (try simp only [all_cons, all_nil, says_cell, and_true] at F)))
              (try simp (disch := first | omega | assumption | exact Nat.le_of_ble_eq_true rfl) only [go_sem, ↓mwp_block, Nat.reduceEqDiff, Nat.reduceAdd, Nat.reduceMul, Nat.reduceSub, Nat.reduceLeDiff, Nat.reduceLT, reduceIte, Int.reduceLT, Int.reduceLE, Int.reduceAdd, Int.reduceSub, Int.reduceMul, Int.reduceEq, Int.reduceToNat, Int.reduceNeg, Int.reduceNe])
              refine hJ3 _ _ ?_
              (try simp (disch := first | omega | assumption | exact Nat.le_of_ble_eq_true rfl) only [go_sem, ↓mwp_block, Nat.reduceEqDiff, Nat.reduceAdd, Nat.reduceMul, Nat.reduceSub, Nat.reduceLeDiff, Nat.reduceLT, reduceIte, Int.reduceLT, Int.reduceLE, Int.reduceAdd, Int.reduceSub, Int.reduceMul, Int.reduceEq, Int.reduceToNat, Int.reduceNeg, Int.reduceNe, e0, e4])
              exact ⟨g, rfl, S⟩
          · clear S
            have e4o := e4
            rintro ρ2 h ⟨e0, e4, g, e5, S⟩
            have r2h := rb (i + 2) (by omega) h S.tl.tl
            have e4' : (iv (ρ 4)).toNat = i := by rw [e4o]; rfl
            (try simp (disch := first | omega | assumption | exact Nat.le_of_ble_eq_true rfl) only [go_sem, ↓mwp_block, Nat.reduceEqDiff, Nat.reduceAdd, Nat.reduceMul, Nat.reduceSub, Nat.reduceLeDiff, Nat.reduceLT, reduceIte, Int.reduceLT, Int.reduceLE, Int.reduceAdd, Int.reduceSub, Int.reduceMul, Int.reduceEq, Int.reduceToNat, Int.reduceNeg, Int.reduceNe, e0, e4, t2, Nat.mul_one, r2h])
            refine cond_dec (fun h7 => ?_) (fun h7 => ?_)
            · (try simp (disch := first | omega | assumption | exact Nat.le_of_ble_eq_true rfl) only [go_sem, ↓mwp_block, Nat.reduceEqDiff, Nat.reduceAdd, Nat.reduceMul, Nat.reduceSub, Nat.reduceLeDiff, Nat.reduceLT, reduceIte, Int.reduceLT, Int.reduceLE, Int.reduceAdd, Int.reduceSub, Int.reduceMul, Int.reduceEq, Int.reduceToNat, Int.reduceNeg, Int.reduceNe])
              refine hK _ _ ⟨?_, S.tl.tl⟩
              rw [dcd_false]
              rintro ⟨m, hR, he⟩
              have hm := isT_cnt he hR.1
              have hkm : k < m.length := by omega
              have hle : 23 ≤ (b.drop i).length := by rw [List.length_drop]; omega
              have hf := flag_of_bytes (bs := b.drop i) (p := m[k]) ?_ hle
              · rw [hcf] at hf
                omega
              · rw [← flat_chunk m k hkm, ← hi, ← List.drop_drop, ← he, encT]
                congr 2
            · (try simp (disch := first | omega | assumption | exact Nat.le_of_ble_eq_true rfl) only [go_sem, ↓mwp_block, Nat.reduceEqDiff, Nat.reduceAdd, Nat.reduceMul, Nat.reduceSub, Nat.reduceLeDiff, Nat.reduceLT, reduceIte, Int.reduceLT, Int.reduceLE, Int.reduceAdd, Int.reduceSub, Int.reduceMul, Int.reduceEq, Int.reduceToNat, Int.reduceNeg, Int.reduceNe, e5])
              have e3' : ∃ v3, ρ2 3 = v3 := ⟨_, rfl⟩
              obtain ⟨v3, e3⟩ := e3'
              rw [e3] at S
              generalize hp : polR (b.drop i, false) = p at hcv
              refine loop_intro (fun ρ' h' => ρ' 0 = .slice (some ⟨bk, off, none⟩) b.length c ∧ ρ' 4 = .int .i64 (i : Int) ∧ ρ' 5 = .pointer (some ⟨g, 0, none⟩) ∧ ρ' 3 = v3 ∧ ∃ k : Nat, ρ' 62 = .int .i64 k ∧ k ≤ 4 ∧
                St h0 h' (cellA g (partP p k) 41 :: ownA Pol.enc 16 41 v3 l :: L)) (fun ρ _ => 4 - (iv (ρ 62)).toNat) ?_ ?_
              · (try simp (disch := first | omega | assumption | exact Nat.le_of_ble_eq_true rfl) only [go_sem, ↓mwp_block, Nat.reduceEqDiff, Nat.reduceAdd, Nat.reduceMul, Nat.reduceSub, Nat.reduceLeDiff, Nat.reduceLT, reduceIte, Int.reduceLT, Int.reduceLE, Int.reduceAdd, Int.reduceSub, Int.reduceMul, Int.reduceEq, Int.reduceToNat, Int.reduceNeg, Int.reduceNe, e0, e4, e5, e3])
                exact ⟨0, rfl, by omega, by rw [hcv]; exact S⟩
              · clear S e0 e4 e5 e3
                rintro ρ3 h J3 hJ3 ⟨e0, e4, e5, e3, k4, e62, hk4, S⟩
                (try simp (disch := first | omega | assumption | exact Nat.le_of_ble_eq_true rfl) only [go_sem, ↓mwp_block, Nat.reduceEqDiff, Nat.reduceAdd, Nat.reduceMul, Nat.reduceSub, Nat.reduceLeDiff, Nat.reduceLT, reduceIte, Int.reduceLT, Int.reduceLE, Int.reduceAdd, Int.reduceSub, Int.reduceMul, Int.reduceEq, Int.reduceToNat, Int.reduceNeg, Int.reduceNe, e62])
                refine cond_dec (fun hg4 => ?_) (fun hg4 => ?_)
                · have tA : ((i : Int) + 13 + 0).toNat = i + 13 := by omega
                  have tB : ((i : Int) + 13 + 3).toNat = i + 16 := by omega
                  have tC : ((i : Int) + 13 + 6).toNat = i + 19 := by omega
                  have tD : ((i : Int) + 13 + 9).toNat = i + 22 := by omega
                  have hb' := ha' _ S.tl.tl
                  have wn : ∀ m, m + 2 ≤ b.length → IntKind.i64.wrap (num ((b.drop m).take 2)) = num ((b.drop m).take 2) := fun m hm => by
                    have := num_two _ (arr_two hb' (m := m) hm).2
                    exact wrap_i64 (by omega) (by omega)
                  have wb : ∀ x : UInt8, IntKind.i64.wrap (x.toNat : Int) = x.toNat := fun x => by have := u8_lt x; exact wrap_i64 (by omega) (by omega)
                  obtain rfl | rfl | rfl | rfl : k4 = 0 ∨ k4 = 1 ∨ k4 = 2 ∨ k4 = 3 := by omega
                  · rw [hcv] at S
                    replace e62 : ρ3 62 = .int .i64 0 := e62
                    simp only [partP, Nat.reduceLT, if_true, if_false, Nat.lt_irrefl, Nat.not_lt_zero] at S
                    (try simp (disch := first | omega | assumption | exact Nat.le_of_ble_eq_true rfl) only [go_sem, ↓mwp_block, Nat.reduceEqDiff, Nat.reduceAdd, Nat.reduceMul, Nat.reduceSub, Nat.reduceLeDiff, Nat.reduceLT, reduceIte, Int.reduceLT, Int.reduceLE, Int.reduceAdd, Int.reduceSub, Int.reduceMul, Int.reduceEq, Int.reduceToNat, Int.reduceNeg, Int.reduceNe, e0, e4, e5, e62])
                    refine call_intro (Number_at (ha' _ S.tl.tl) (i + 3) (by omega) (by omega) (by omega)) ?_
                    rintro _ _ ⟨rfl, rfl⟩
                    (try simp (disch := first | omega | assumption | exact Nat.le_of_ble_eq_true rfl) only [go_sem, ↓mwp_block, Nat.reduceEqDiff, Nat.reduceAdd, Nat.reduceMul, Nat.reduceSub, Nat.reduceLeDiff, Nat.reduceLT, reduceIte, Int.reduceLT, Int.reduceLE, Int.reduceAdd, Int.reduceSub, Int.reduceMul, Int.reduceEq, Int.reduceToNat, Int.reduceNeg, Int.reduceNe, e0, e4, e5, wn (i + 3) (by omega)])
                    (refine st_store (by first | exact S | exact S.p1 | exact S.p2 | exact S.p3 | exact S.p4 | exact S.p5 | exact S.p6 | exact S.p7 | exact S.p8 | exact S.p9 | exact S.p10 | exact S.p11) (by rfl) (by rfl) (Nat.le_of_ble_eq_true rfl) ?_; clear S; intro h S; (try simp only [splice_cons, splice_nil, List.set_cons_zero, List.set_cons_succ, Nat.zero_add, Nat.reduceAdd, List.cons_append, List.nil_append] at S); ((try clear F); have F := S.all; (try simp only [all_cons, all_nil, says_cell, and_true] at F)))
                    (try simp (disch := first | omega | assumption | exact Nat.le_of_ble_eq_true rfl) only [go_sem, ↓mwp_block, Nat.reduceEqDiff, Nat.reduceAdd, Nat.reduceMul, Nat.reduceSub, Nat.reduceLeDiff, Nat.reduceLT, reduceIte, Int.reduceLT, Int.reduceLE, Int.reduceAdd, Int.reduceSub, Int.reduceMul, Int.reduceEq, Int.reduceToNat, Int.reduceNeg, Int.reduceNe, e0, e4, e5])
                    have rx := fun K t => reads_of (K := K) (t := t) S.tl.tl (rb (i + 13) (by omega))
                    refine draw_st S.tl.tl ?_
                    (try simp (disch := first | omega | assumption | exact Nat.le_of_ble_eq_true rfl) only [go_sem, ↓mwp_block, Nat.reduceEqDiff, Nat.reduceAdd, Nat.reduceMul, Nat.reduceSub, Nat.reduceLeDiff, Nat.reduceLT, reduceIte, Int.reduceLT, Int.reduceLE, Int.reduceAdd, Int.reduceSub, Int.reduceMul, Int.reduceEq, Int.reduceToNat, Int.reduceNeg, Int.reduceNe, e0, e4, e5, tA, Nat.mul_one, rx, wb])
                    refine call_intro (Number_at (ha' _ S.tl.tl) (i + 11) (by omega) (by omega) (by omega)) ?_
                    rintro _ _ ⟨rfl, rfl⟩
                    refine chk_st S.tl.tl ?_
                    (try simp (disch := first | omega | assumption | exact Nat.le_of_ble_eq_true rfl) only [go_sem, ↓mwp_block, Nat.reduceEqDiff, Nat.reduceAdd, Nat.reduceMul, Nat.reduceSub, Nat.reduceLeDiff, Nat.reduceLT, reduceIte, Int.reduceLT, Int.reduceLE, Int.reduceAdd, Int.reduceSub, Int.reduceMul, Int.reduceEq, Int.reduceToNat, Int.reduceNeg, Int.reduceNe, wn (i + 11) (by omega)])
                    (refine st_store (by first | exact S | exact S.p1 | exact S.p2 | exact S.p3 | exact S.p4 | exact S.p5 | exact S.p6 | exact S.p7 | exact S.p8 | exact S.p9 | exact S.p10 | exact S.p11) (by rfl) (by rfl) (Nat.le_of_ble_eq_true rfl) ?_; clear S; intro h S; (try simp only [splice_cons, splice_nil, List.set_cons_zero, List.set_cons_succ, Nat.zero_add, Nat.reduceAdd, List.cons_append, List.nil_append] at S); ((try clear F); have F := S.all; (try simp only [all_cons, all_nil, says_cell, and_true] at F)))
                    (try simp (disch := first | omega | assumption | exact Nat.le_of_ble_eq_true rfl) only [go_sem, ↓mwp_block, Nat.reduceEqDiff, Nat.reduceAdd, Nat.reduceMul, Nat.reduceSub, Nat.reduceLeDiff, Nat.reduceLT, reduceIte, Int.reduceLT, Int.reduceLE, Int.reduceAdd, Int.reduceSub, Int.reduceMul, Int.reduceEq, Int.reduceToNat, Int.reduceNeg, Int.reduceNe, e0, e4, e5, e62])
                    refine hJ3 _ _ ?_ ?_
                    · (try simp (disch := first | omega | assumption | exact Nat.le_of_ble_eq_true rfl) only [go_sem, ↓mwp_block, Nat.reduceEqDiff, Nat.reduceAdd, Nat.reduceMul, Nat.reduceSub, Nat.reduceLeDiff, Nat.reduceLT, reduceIte, Int.reduceLT, Int.reduceLE, Int.reduceAdd, Int.reduceSub, Int.reduceMul, Int.reduceEq, Int.reduceToNat, Int.reduceNeg, Int.reduceNe, e0, e4, e5, e3, e62])
                      exact ⟨1, rfl, by omega, by rw [hcv]; exact S⟩
                    · ((try simp (disch := first | omega | assumption | exact Nat.le_of_ble_eq_true rfl) only [go_sem, ↓mwp_block, Nat.reduceEqDiff, Nat.reduceAdd, Nat.reduceMul, Nat.reduceSub, Nat.reduceLeDiff, Nat.reduceLT, reduceIte, Int.reduceLT, Int.reduceLE, Int.reduceAdd, Int.reduceSub, Int.reduceMul, Int.reduceEq, Int.reduceToNat, Int.reduceNeg, Int.reduceNe, e62])) <;> omega
                  · rw [hcv] at S
                    replace e62 : ρ3 62 = .int .i64 1 := e62
                    simp only [partP, Nat.reduceLT, if_true, if_false, Nat.lt_irrefl, Nat.not_lt_zero] at S
                    (try simp (disch := first | omega | assumption | exact Nat.le_of_ble_eq_true rfl) only [go_sem, ↓mwp_block, Nat.reduceEqDiff, Nat.reduceAdd, Nat.reduceMul, Nat.reduceSub, Nat.reduceLeDiff, Nat.reduceLT, reduceIte, Int.reduceLT, Int.reduceLE, Int.reduceAdd, Int.reduceSub, Int.reduceMul, Int.reduceEq, Int.reduceToNat, Int.reduceNeg, Int.reduceNe, e0, e4, e5, e62])
                    refine call_intro (Number_at (ha' _ S.tl.tl) (i + 5) (by omega) (by omega) (by omega)) ?_
                    rintro _ _ ⟨rfl, rfl⟩
                    (try simp (disch := first | omega | assumption | exact Nat.le_of_ble_eq_true rfl) only [go_sem, ↓mwp_block, Nat.reduceEqDiff, Nat.reduceAdd, Nat.reduceMul, Nat.reduceSub, Nat.reduceLeDiff, Nat.reduceLT, reduceIte, Int.reduceLT, Int.reduceLE, Int.reduceAdd, Int.reduceSub, Int.reduceMul, Int.reduceEq, Int.reduceToNat, Int.reduceNeg, Int.reduceNe, e0, e4, e5, wn (i + 5) (by omega)])
                    (refine st_store (by first | exact S | exact S.p1 | exact S.p2 | exact S.p3 | exact S.p4 | exact S.p5 | exact S.p6 | exact S.p7 | exact S.p8 | exact S.p9 | exact S.p10 | exact S.p11) (by rfl) (by rfl) (Nat.le_of_ble_eq_true rfl) ?_; clear S; intro h S; (try simp only [splice_cons, splice_nil, List.set_cons_zero, List.set_cons_succ, Nat.zero_add, Nat.reduceAdd, List.cons_append, List.nil_append] at S); ((try clear F); have F := S.all; (try simp only [all_cons, all_nil, says_cell, and_true] at F)))
                    (try simp (disch := first | omega | assumption | exact Nat.le_of_ble_eq_true rfl) only [go_sem, ↓mwp_block, Nat.reduceEqDiff, Nat.reduceAdd, Nat.reduceMul, Nat.reduceSub, Nat.reduceLeDiff, Nat.reduceLT, reduceIte, Int.reduceLT, Int.reduceLE, Int.reduceAdd, Int.reduceSub, Int.reduceMul, Int.reduceEq, Int.reduceToNat, Int.reduceNeg, Int.reduceNe, e0, e4, e5])
                    have rx := fun K t => reads_of (K := K) (t := t) S.tl.tl (rb (i + 16) (by omega))
                    refine draw_st S.tl.tl ?_
                    (try simp (disch := first | omega | assumption | exact Nat.le_of_ble_eq_true rfl) only [go_sem, ↓mwp_block, Nat.reduceEqDiff, Nat.reduceAdd, Nat.reduceMul, Nat.reduceSub, Nat.reduceLeDiff, Nat.reduceLT, reduceIte, Int.reduceLT, Int.reduceLE, Int.reduceAdd, Int.reduceSub, Int.reduceMul, Int.reduceEq, Int.reduceToNat, Int.reduceNeg, Int.reduceNe, e0, e4, e5, tB, Nat.mul_one, rx, wb])
                    refine call_intro (Number_at (ha' _ S.tl.tl) (i + 14) (by omega) (by omega) (by omega)) ?_
                    rintro _ _ ⟨rfl, rfl⟩
                    refine chk_st S.tl.tl ?_
                    (try simp (disch := first | omega | assumption | exact Nat.le_of_ble_eq_true rfl) only [go_sem, ↓mwp_block, Nat.reduceEqDiff, Nat.reduceAdd, Nat.reduceMul, Nat.reduceSub, Nat.reduceLeDiff, Nat.reduceLT, reduceIte, Int.reduceLT, Int.reduceLE, Int.reduceAdd, Int.reduceSub, Int.reduceMul, Int.reduceEq, Int.reduceToNat, Int.reduceNeg, Int.reduceNe, wn (i + 14) (by omega)])
                    (refine st_store (by first | exact S | exact S.p1 | exact S.p2 | exact S.p3 | exact S.p4 | exact S.p5 | exact S.p6 | exact S.p7 | exact S.p8 | exact S.p9 | exact S.p10 | exact S.p11) (by rfl) (by rfl) (Nat.le_of_ble_eq_true rfl) ?_; clear S; intro h S; (try simp only [splice_cons, splice_nil, List.set_cons_zero, List.set_cons_succ, Nat.zero_add, Nat.reduceAdd, List.cons_append, List.nil_append] at S); ((try clear F); have F := S.all; (try simp only [all_cons, all_nil, says_cell, and_true] at F)))
                    (try simp (disch := first | omega | assumption | exact Nat.le_of_ble_eq_true rfl) only [go_sem, ↓mwp_block, Nat.reduceEqDiff, Nat.reduceAdd, Nat.reduceMul, Nat.reduceSub, Nat.reduceLeDiff, Nat.reduceLT, reduceIte, Int.reduceLT, Int.reduceLE, Int.reduceAdd, Int.reduceSub, Int.reduceMul, Int.reduceEq, Int.reduceToNat, Int.reduceNeg, Int.reduceNe, e0, e4, e5, e62])
                    refine hJ3 _ _ ?_ ?_
                    · (try simp (disch := first | omega | assumption | exact Nat.le_of_ble_eq_true rfl) only [go_sem, ↓mwp_block, Nat.reduceEqDiff, Nat.reduceAdd, Nat.reduceMul, Nat.reduceSub, Nat.reduceLeDiff, Nat.reduceLT, reduceIte, Int.reduceLT, Int.reduceLE, Int.reduceAdd, Int.reduceSub, Int.reduceMul, Int.reduceEq, Int.reduceToNat, Int.reduceNeg, Int.reduceNe, e0, e4, e5, e3, e62])
                      exact ⟨2, rfl, by omega, by rw [hcv]; exact S⟩
                    · ((try simp (disch := first | omega | assumption | exact Nat.le_of_ble_eq_true rfl) only [go_sem, ↓mwp_block, Nat.reduceEqDiff, Nat.reduceAdd, Nat.reduceMul, Nat.reduceSub, Nat.reduceLeDiff, Nat.reduceLT, reduceIte, Int.reduceLT, Int.reduceLE, Int.reduceAdd, Int.reduceSub, Int.reduceMul, Int.reduceEq, Int.reduceToNat, Int.reduceNeg, Int.reduceNe, e62])) <;> omega
                  · rw [hcv] at S
                    replace e62 : ρ3 62 = .int .i64 2 := e62
                    simp only [partP, Nat.reduceLT, if_true, if_false, Nat.lt_irrefl, Nat.not_lt_zero] at S
                    (try simp (disch := first | omega | assumption | exact Nat.le_of_ble_eq_true rfl) only [go_sem, ↓mwp_block, Nat.reduceEqDiff, Nat.reduceAdd, Nat.reduceMul, Nat.reduceSub, Nat.reduceLeDiff, Nat.reduceLT, reduceIte, Int.reduceLT, Int.reduceLE, Int.reduceAdd, Int.reduceSub, Int.reduceMul, Int.reduceEq, Int.reduceToNat, Int.reduceNeg, Int.reduceNe, e0, e4, e5, e62])
                    refine call_intro (Number_at (ha' _ S.tl.tl) (i + 7) (by omega) (by omega) (by omega)) ?_
                    rintro _ _ ⟨rfl, rfl⟩
                    (try simp (disch := first | omega | assumption | exact Nat.le_of_ble_eq_true rfl) only [go_sem, ↓mwp_block, Nat.reduceEqDiff, Nat.reduceAdd, Nat.reduceMul, Nat.reduceSub, Nat.reduceLeDiff, Nat.reduceLT, reduceIte, Int.reduceLT, Int.reduceLE, Int.reduceAdd, Int.reduceSub, Int.reduceMul, Int.reduceEq, Int.reduceToNat, Int.reduceNeg, Int.reduceNe, e0, e4, e5, wn (i + 7) (by omega)])
                    (refine st_store (by first | exact S | exact S.p1 | exact S.p2 | exact S.p3 | exact S.p4 | exact S.p5 | exact S.p6 | exact S.p7 | exact S.p8 | exact S.p9 | exact S.p10 | exact S.p11) (by rfl) (by rfl) (Nat.le_of_ble_eq_true rfl) ?_; clear S; intro h S; (try simp only [splice_cons, splice_nil, List.set_cons_zero, List.set_cons_succ, Nat.zero_add, Nat.reduceAdd, List.cons_append, List.nil_append] at S); ((try clear F); have F := S.all; (try simp only [all_cons, all_nil, says_cell, and_true] at F)))
                    (try simp (disch := first | omega | assumption | exact Nat.le_of_ble_eq_true rfl) only [go_sem, ↓mwp_block, Nat.reduceEqDiff, Nat.reduceAdd, Nat.reduceMul, Nat.reduceSub, Nat.reduceLeDiff, Nat.reduceLT, reduceIte, Int.reduceLT, Int.reduceLE, Int.reduceAdd, Int.reduceSub, Int.reduceMul, Int.reduceEq, Int.reduceToNat, Int.reduceNeg, Int.reduceNe, e0, e4, e5])
                    have rx := fun K t => reads_of (K := K) (t := t) S.tl.tl (rb (i + 19) (by omega))
                    refine draw_st S.tl.tl ?_
                    (try simp (disch := first | omega | assumption | exact Nat.le_of_ble_eq_true rfl) only [go_sem, ↓mwp_block, Nat.reduceEqDiff, Nat.reduceAdd, Nat.reduceMul, Nat.reduceSub, Nat.reduceLeDiff, Nat.reduceLT, reduceIte, Int.reduceLT, Int.reduceLE, Int.reduceAdd, Int.reduceSub, Int.reduceMul, Int.reduceEq, Int.reduceToNat, Int.reduceNeg, Int.reduceNe, e0, e4, e5, tC, Nat.mul_one, rx, wb])
                    refine call_intro (Number_at (ha' _ S.tl.tl) (i + 17) (by omega) (by omega) (by omega)) ?_
                    rintro _ _ ⟨rfl, rfl⟩
                    refine chk_st S.tl.tl ?_
                    (try simp (disch := first | omega | assumption | exact Nat.le_of_ble_eq_true rfl) only [go_sem, ↓mwp_block, Nat.reduceEqDiff, Nat.reduceAdd, Nat.reduceMul, Nat.reduceSub, Nat.reduceLeDiff, Nat.reduceLT, reduceIte, Int.reduceLT, Int.reduceLE, Int.reduceAdd, Int.reduceSub, Int.reduceMul, Int.reduceEq, Int.reduceToNat, Int.reduceNeg, Int.reduceNe, wn (i + 17) (by omega)])
                    (refine st_store (by first | exact S | exact S.p1 | exact S.p2 | exact S.p3 | exact S.p4 | exact S.p5 | exact S.p6 | exact S.p7 | exact S.p8 | exact S.p9 | exact S.p10 | exact S.p11) (by rfl) (by rfl) (Nat.le_of_ble_eq_true rfl) ?_; clear S; intro h S; (try simp only [splice_cons, splice_nil, List.set_cons_zero, List.set_cons_succ, Nat.zero_add, Nat.reduceAdd, List.cons_append, List.nil_append] at S); ((try clear F); have F := S.all; (try simp only [all_cons, all_nil, says_cell, and_true] at F)))
                    (try simp (disch := first | omega | assumption | exact Nat.le_of_ble_eq_true rfl) only [go_sem, ↓mwp_block, Nat.reduceEqDiff, Nat.reduceAdd, Nat.reduceMul, Nat.reduceSub, Nat.reduceLeDiff, Nat.reduceLT, reduceIte, Int.reduceLT, Int.reduceLE, Int.reduceAdd, Int.reduceSub, Int.reduceMul, Int.reduceEq, Int.reduceToNat, Int.reduceNeg, Int.reduceNe, e0, e4, e5, e62])
                    refine hJ3 _ _ ?_ ?_
                    · (try simp (disch := first | omega | assumption | exact Nat.le_of_ble_eq_true rfl) only [go_sem, ↓mwp_block, Nat.reduceEqDiff, Nat.reduceAdd, Nat.reduceMul, Nat.reduceSub, Nat.reduceLeDiff, Nat.reduceLT, reduceIte, Int.reduceLT, Int.reduceLE, Int.reduceAdd, Int.reduceSub, Int.reduceMul, Int.reduceEq, Int.reduceToNat, Int.reduceNeg, Int.reduceNe, e0, e4, e5, e3, e62])
                      exact ⟨3, rfl, by omega, by rw [hcv]; exact S⟩
                    · ((try simp (disch := first | omega | assumption | exact Nat.le_of_ble_eq_true rfl) only [go_sem, ↓mwp_block, Nat.reduceEqDiff, Nat.reduceAdd, Nat.reduceMul, Nat.reduceSub, Nat.reduceLeDiff, Nat.reduceLT, reduceIte, Int.reduceLT, Int.reduceLE, Int.reduceAdd, Int.reduceSub, Int.reduceMul, Int.reduceEq, Int.reduceToNat, Int.reduceNeg, Int.reduceNe, e62])) <;> omega
                  · rw [hcv] at S
                    replace e62 : ρ3 62 = .int .i64 3 := e62
                    simp only [partP, Nat.reduceLT, if_true, if_false, Nat.lt_irrefl, Nat.not_lt_zero] at S
                    (try simp (disch := first | omega | assumption | exact Nat.le_of_ble_eq_true rfl) only [go_sem, ↓mwp_block, Nat.reduceEqDiff, Nat.reduceAdd, Nat.reduceMul, Nat.reduceSub, Nat.reduceLeDiff, Nat.reduceLT, reduceIte, Int.reduceLT, Int.reduceLE, Int.reduceAdd, Int.reduceSub, Int.reduceMul, Int.reduceEq, Int.reduceToNat, Int.reduceNeg, Int.reduceNe, e0, e4, e5, e62])
                    refine call_intro (Number_at (ha' _ S.tl.tl) (i + 9) (by omega) (by omega) (by omega)) ?_
                    rintro _ _ ⟨rfl, rfl⟩
                    (try simp (disch := first | omega | assumption | exact Nat.le_of_ble_eq_true rfl) only [go_sem, ↓mwp_block, Nat.reduceEqDiff, Nat.reduceAdd, Nat.reduceMul, Nat.reduceSub, Nat.reduceLeDiff, Nat.reduceLT, reduceIte, Int.reduceLT, Int.reduceLE, Int.reduceAdd, Int.reduceSub, Int.reduceMul, Int.reduceEq, Int.reduceToNat, Int.reduceNeg, Int.reduceNe, e0, e4, e5, wn (i + 9) (by omega)])
                    (refine st_store (by first | exact S | exact S.p1 | exact S.p2 | exact S.p3 | exact S.p4 | exact S.p5 | exact S.p6 | exact S.p7 | exact S.p8 | exact S.p9 | exact S.p10 | exact S.p11) (by rfl) (by rfl) (Nat.le_of_ble_eq_true rfl) ?_; clear S; intro h S; (try simp only [splice_cons, splice_nil, List.set_cons_zero, List.set_cons_succ, Nat.zero_add, Nat.reduceAdd, List.cons_append, List.nil_append] at S); ((try clear F); have F := S.all; (try simp only [all_cons, all_nil, says_cell, and_true] at F)))
                    (try simp (disch := first | omega | assumption | exact Nat.le_of_ble_eq_true rfl) only [go_sem, ↓mwp_block, Nat.reduceEqDiff, Nat.reduceAdd, Nat.reduceMul, Nat.reduceSub, Nat.reduceLeDiff, Nat.reduceLT, reduceIte, Int.reduceLT, Int.reduceLE, Int.reduceAdd, Int.reduceSub, Int.reduceMul, Int.reduceEq, Int.reduceToNat, Int.reduceNeg, Int.reduceNe, e0, e4, e5])
                    have rx := fun K t => reads_of (K := K) (t := t) S.tl.tl (rb (i + 22) (by omega))
                    refine draw_st S.tl.tl ?_
                    (try simp (disch := first | omega | assumption | exact Nat.le_of_ble_eq_true rfl) only [go_sem, ↓mwp_block, Nat.reduceEqDiff, Nat.reduceAdd, Nat.reduceMul, Nat.reduceSub, Nat.reduceLeDiff, Nat.reduceLT, reduceIte, Int.reduceLT, Int.reduceLE, Int.reduceAdd, Int.reduceSub, Int.reduceMul, Int.reduceEq, Int.reduceToNat, Int.reduceNeg, Int.reduceNe, e0, e4, e5, tD, Nat.mul_one, rx, wb])
                    refine call_intro (Number_at (ha' _ S.tl.tl) (i + 20) (by omega) (by omega) (by omega)) ?_
                    rintro _ _ ⟨rfl, rfl⟩
                    refine chk_st S.tl.tl ?_
                    (try simp (disch := first | omega | assumption | exact Nat.le_of_ble_eq_true rfl) only [go_sem, ↓mwp_block, Nat.reduceEqDiff, Nat.reduceAdd, Nat.reduceMul, Nat.reduceSub, Nat.reduceLeDiff, Nat.reduceLT, reduceIte, Int.reduceLT, Int.reduceLE, Int.reduceAdd, Int.reduceSub, Int.reduceMul, Int.reduceEq, Int.reduceToNat, Int.reduceNeg, Int.reduceNe, wn (i + 20) (by omega)])
                    (refine st_store (by first | exact S | exact S.p1 | exact S.p2 | exact S.p3 | exact S.p4 | exact S.p5 | exact S.p6 | exact S.p7 | exact S.p8 | exact S.p9 | exact S.p10 | exact S.p11) (by rfl) (by rfl) (Nat.le_of_ble_eq_true rfl) ?_; clear S; intro h S; (try simp only [splice_cons, splice_nil, List.set_cons_zero, List.set_cons_succ, Nat.zero_add, Nat.reduceAdd, List.cons_append, List.nil_append] at S); ((try clear F); have F := S.all; (try simp only [all_cons, all_nil, says_cell, and_true] at F)))
                    (try simp (disch := first | omega | assumption | exact Nat.le_of_ble_eq_true rfl) only [go_sem, ↓mwp_block, Nat.reduceEqDiff, Nat.reduceAdd, Nat.reduceMul, Nat.reduceSub, Nat.reduceLeDiff, Nat.reduceLT, reduceIte, Int.reduceLT, Int.reduceLE, Int.reduceAdd, Int.reduceSub, Int.reduceMul, Int.reduceEq, Int.reduceToNat, Int.reduceNeg, Int.reduceNe, e0, e4, e5, e62])
                    refine hJ3 _ _ ?_ ?_
                    · (try simp (disch := first | omega | assumption | exact Nat.le_of_ble_eq_true rfl) only [go_sem, ↓mwp_block, Nat.reduceEqDiff, Nat.reduceAdd, Nat.reduceMul, Nat.reduceSub, Nat.reduceLeDiff, Nat.reduceLT, reduceIte, Int.reduceLT, Int.reduceLE, Int.reduceAdd, Int.reduceSub, Int.reduceMul, Int.reduceEq, Int.reduceToNat, Int.reduceNeg, Int.reduceNe, e0, e4, e5, e3, e62])
                      exact ⟨4, rfl, by omega, by rw [hcv]; exact S⟩
                    · ((try simp (disch := first | omega | assumption | exact Nat.le_of_ble_eq_true rfl) only [go_sem, ↓mwp_block, Nat.reduceEqDiff, Nat.reduceAdd, Nat.reduceMul, Nat.reduceSub, Nat.reduceLeDiff, Nat.reduceLT, reduceIte, Int.reduceLT, Int.reduceLE, Int.reduceAdd, Int.reduceSub, Int.reduceMul, Int.reduceEq, Int.reduceToNat, Int.reduceNeg, Int.reduceNe, e62])) <;> omega
                · obtain rfl : k4 = 4 := by omega
                  simp only [partP, Nat.reduceLT, if_true, if_false, Nat.lt_irrefl, Nat.not_lt_zero] at S
                  ((try clear F); have F := S.all; (try simp only [all_cons, all_nil, says_cell, and_true] at F))
                  (try simp (disch := first | omega | assumption | exact Nat.le_of_ble_eq_true rfl) only [go_sem, ↓mwp_block, Nat.reduceEqDiff, Nat.reduceAdd, Nat.reduceMul, Nat.reduceSub, Nat.reduceLeDiff, Nat.reduceLT, reduceIte, Int.reduceLT, Int.reduceLE, Int.reduceAdd, Int.reduceSub, Int.reduceMul, Int.reduceEq, Int.reduceToNat, Int.reduceNeg, Int.reduceNe, e3, e5, F])
                  (refine st_alloc S ?_; clear S; intro w h S; (try simp only [splice_cons, splice_nil, List.set_cons_zero, List.set_cons_succ, Nat.zero_add, Nat.reduceAdd, List.cons_append, List.nil_append] at S); ((try clear F); have F := S.all; (try simp only [all_cons, all_nil, says_cell, and_true] at F)))
                  (try simp (disch := first | omega | assumption | exact Nat.le_of_ble_eq_true rfl) only [go_sem, ↓mwp_block, Nat.reduceEqDiff, Nat.reduceAdd, Nat.reduceMul, Nat.reduceSub, Nat.reduceLeDiff, Nat.reduceLT, reduceIte, Int.reduceLT, Int.reduceLE, Int.reduceAdd, Int.reduceSub, Int.reduceMul, Int.reduceEq, Int.reduceToNat, Int.reduceNeg, Int.reduceNe])
                  refine st_append1 (bytes := 112) (x := polR (b.drop i, false)) Pol.enc_len (by omega) Pol.enc_plain rfl (by rw [hp]; rfl) (S.p2.p1) (by omega) (by omega) ?_
                  clear S F
                  intro v' h S
                  (try simp (disch := first | omega | assumption | exact Nat.le_of_ble_eq_true rfl) only [go_sem, ↓mwp_block, Nat.reduceEqDiff, Nat.reduceAdd, Nat.reduceMul, Nat.reduceSub, Nat.reduceLeDiff, Nat.reduceLT, reduceIte, Int.reduceLT, Int.reduceLE, Int.reduceAdd, Int.reduceSub, Int.reduceMul, Int.reduceEq, Int.reduceToNat, Int.reduceNeg, Int.reduceNe, e4])
                  refine hJ _ _ ?_ ?_
                  · (try simp (disch := first | omega | assumption | exact Nat.le_of_ble_eq_true rfl) only [go_sem, ↓mwp_block, Nat.reduceEqDiff, Nat.reduceAdd, Nat.reduceMul, Nat.reduceSub, Nat.reduceLeDiff, Nat.reduceLT, reduceIte, Int.reduceLT, Int.reduceLE, Int.reduceAdd, Int.reduceSub, Int.reduceMul, Int.reduceEq, Int.reduceToNat, Int.reduceNeg, Int.reduceNe, e0, e4])
                    refine ⟨k + 1, l ++ [polR (b.drop i, false)], ?_, by omega, by simp [hlk], ?_, ?_, S.d1⟩
                    · congr 1
                      omega
                    · intro r hr
                      rcases List.mem_append.1 hr with hr | hr
                      · exact hfit r hr
                      · simp at hr; rw [hr]; exact polR_fits _
                    · have h23' : 23 ≤ (b.drop i).length := by rw [List.length_drop]; omega
                      rw [List.flatMap_append, hfl, List.flatMap_cons, List.flatMap_nil, List.append_nil, polR_bytes h23' (by rw [hcf]; omega), ← hi, ← List.drop_drop, show 23 * (k + 1) = 23 * k + 23 by omega, List.take_add]
                  · rw [e4']
                    (try simp (disch := first | omega | assumption | exact Nat.le_of_ble_eq_true rfl) only [go_sem, ↓mwp_block, Nat.reduceEqDiff, Nat.reduceAdd, Nat.reduceMul, Nat.reduceSub, Nat.reduceLeDiff, Nat.reduceLT, reduceIte, Int.reduceLT, Int.reduceLE, Int.reduceAdd, Int.reduceSub, Int.reduceMul, Int.reduceEq, Int.reduceToNat, Int.reduceNeg, Int.reduceNe, e4])
                    omega
        · obtain rfl : i = b.length := by omega
          obtain ⟨P3, c3, e3⟩ := S.sl
          rw [e3] at S
          (try simp (disch := first | omega | assumption | exact Nat.le_of_ble_eq_true rfl) only [go_sem, ↓mwp_block, Nat.reduceEqDiff, Nat.reduceAdd, Nat.reduceMul, Nat.reduceSub, Nat.reduceLeDiff, Nat.reduceLT, reduceIte, Int.reduceLT, Int.reduceLE, Int.reduceAdd, Int.reduceSub, Int.reduceMul, Int.reduceEq, Int.reduceToNat, Int.reduceNeg, Int.reduceNe, e3])
          have hnk : num (b.take 2) = (k : Int) := by omega
          refine call_intro (RightTable_ok (S.arr Pol.enc_len) (by omega)) ?_
          rintro _ h ⟨rfl, hf⟩
          have S := S.frame hf
          (try simp (disch := first | omega | assumption | exact Nat.le_of_ble_eq_true rfl) only [go_sem, ↓mwp_block, Nat.reduceEqDiff, Nat.reduceAdd, Nat.reduceMul, Nat.reduceSub, Nat.reduceLeDiff, Nat.reduceLT, reduceIte, Int.reduceLT, Int.reduceLE, Int.reduceAdd, Int.reduceSub, Int.reduceMul, Int.reduceEq, Int.reduceToNat, Int.reduceNeg, Int.reduceNe])
          refine hK _ _ ⟨?_, S.tl⟩
          have henc : encT l = b := by
            have e2 : (b.drop 2).take (23 * k) = b.drop 2 := List.take_of_length_le (by rw [List.length_drop]; omega)
            rw [encT, hfl, hlk, ← hnk, le_num_n _ 2 htl, e2, List.take_append_drop]
          by_cases hR : RightT l
          · rw [dcd_true hR, dcd_true]
            exact ⟨l, hR, henc⟩
          · rw [dcd_false hR, dcd_false]
            rintro ⟨m, hm, he⟩
            have : m = l := encT_inj (fun p hp => Pol.right_fits (hm.2 p hp)) hfit (by rw [he, henc])
            exact hR (this ▸ hm)
    · (try simp (disch := first | omega | assumption | exact Nat.le_of_ble_eq_true rfl) only [go_sem, ↓mwp_block, Nat.reduceEqDiff, Nat.reduceAdd, Nat.reduceMul, Nat.reduceSub, Nat.reduceLeDiff, Nat.reduceLT, reduceIte, Int.reduceLT, Int.reduceLE, Int.reduceAdd, Int.reduceSub, Int.reduceMul, Int.reduceEq, Int.reduceToNat, Int.reduceNeg, Int.reduceNe, hw])
      refine hK _ _ ⟨?_, S⟩
      rw [dcd_false]
      rintro ⟨l, hR, he⟩
      have := isT_cnt he hR.1
      omega
end Go.Proofs.Ytackopkhelochaa.MX
