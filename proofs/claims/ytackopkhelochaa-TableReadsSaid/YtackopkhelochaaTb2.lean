/- A table's bytes, as the program writes them. -/
import Derived.Test.YtackopkhelochaaTb1
namespace Go.Proofs.Ytackopkhelochaa.MX
open Go Go.Proofs
set_option linter.unusedSimpArgs false
set_option linter.unusedVariables false

def flagsOf (p : Pol) : Int := (if p.fin then 1 else 0) + (if p.exc then 2 else 0) + (if p.cre then 4 else 0)
theorem flags_ok (p : Pol) (h : Heap) : CallsH Try.prog 61 [.agg p.enc.toArray] h fun v h' => v = .int .i64 (flagsOf p) ∧ Fr h h' [] := by
  have S := St.nil h
  (refine enterK c_table_flags (Nat.le_of_ble_eq_true rfl) fun K hK => ?_; (try simp (disch := first | omega | assumption | exact Nat.le_of_ble_eq_true rfl) only [go_sem, ↓mwp_block, Nat.reduceEqDiff, Nat.reduceAdd, Nat.reduceMul, Nat.reduceSub, Nat.reduceLeDiff, Nat.reduceLT, reduceIte, Int.reduceLT, Int.reduceLE, Int.reduceAdd, Int.reduceSub, Int.reduceMul, Int.reduceEq, Int.reduceToNat, Int.reduceNeg, Int.reduceNe, ir_table_flags]))
  (refine st_alloc S ?_; clear S; intro b h S; (try simp only [splice_cons, splice_nil, List.set_cons_zero, List.set_cons_succ, Nat.zero_add, Nat.reduceAdd, List.cons_append, List.nil_append] at S); ((try clear F); have F := S.all; (try simp only [all_cons, all_nil, says_cell, and_true] at F)))
  obtain ⟨w, fin, exc, cre, f0, f1, f2, f3, s0, t0, s1, t1, s2, t2, s3, t3⟩ := p
  cases fin <;> cases exc <;> cases cre <;> ((try simp (disch := first | omega | assumption | exact Nat.le_of_ble_eq_true rfl) only [go_sem, ↓mwp_block, Nat.reduceEqDiff, Nat.reduceAdd, Nat.reduceMul, Nat.reduceSub, Nat.reduceLeDiff, Nat.reduceLT, reduceIte, Int.reduceLT, Int.reduceLE, Int.reduceAdd, Int.reduceSub, Int.reduceMul, Int.reduceEq, Int.reduceToNat, Int.reduceNeg, Int.reduceNe, F, Pol.enc]); exact hK _ _ ⟨rfl, S.fr⟩)

theorem fit1 {v : Int} {bs : List UInt8} (h0 : 0 ≤ v) (h1 : v < 256) : putBs 1 v bs false = bs ++ le 1 v ∧ putBad 1 v false = false := by
  have : putBad 1 v false = false := by simp [putBad]; omega
  exact ⟨by simp [putBs, this], this⟩
theorem fit2 {v : Int} {bs : List UInt8} (h0 : 0 ≤ v) (h1 : v < 65536) : putBs 2 v bs false = bs ++ le 2 v ∧ putBad 2 v false = false := by
  have : putBad 2 v false = false := by simp [putBad]; omega
  exact ⟨by simp [putBs, this], this⟩
theorem fit4 {v : Int} {bs : List UInt8} (h0 : 0 ≤ v) (h1 : v < 4294967296) : putBs 4 v bs false = bs ++ le 4 v ∧ putBad 4 v false = false := by
  have : putBad 4 v false = false := by simp [putBad]; omega
  exact ⟨by simp [putBs, this], this⟩

def Pol.bytes (p : Pol) : List UInt8 := le 2 p.w ++ (le 1 (flagsOf p) ++ (le 2 p.f0 ++ (le 2 p.f1 ++ (le 2 p.f2 ++ (le 2 p.f3 ++ (le 2 p.s0 ++ (le 1 p.t0 ++ (le 2 p.s1 ++ (le 1 p.t1 ++ (le 2 p.s2 ++ (le 1 p.t2 ++ (le 2 p.s3 ++ le 1 p.t3))))))))))))
theorem Pol.bytes_len (p : Pol) : p.bytes.length = 23 := by simp [Pol.bytes, le_length]
theorem bytes_len : ∀ l : List Pol, (l.flatMap Pol.bytes).length = l.length * 23
  | [] => rfl
  | p :: l => by simp [bytes_len l, Pol.bytes_len]; omega
def encT (l : List Pol) : List UInt8 := le 2 l.length ++ l.flatMap Pol.bytes
theorem flagsOf_lt (p : Pol) : 0 ≤ flagsOf p ∧ flagsOf p < 8 := by
  unfold flagsOf
  (repeat' split) <;> omega
theorem out_new {h0 h : Heap} {l : List HP} {o : Nat} (S : St h0 h (cellA o [.slice none 0 0, .bool false] 86 :: l)) : St h0 h (outA o [] false :: l) :=
  outA_open.2 ⟨_, (S.nilS).swap⟩

set_option maxHeartbeats 8000000 in
theorem Encode_ok {h0 h : Heap} {l : List HP} {A : Option Addr} {c : Nat} {xs : List Pol} (S : St h0 h l) (ha : ∀ h', St h0 h' l → Arr Pol.enc 16 h' A xs) (hl : xs.length < 1000000) :
    CallsH Try.prog 22 [.slice A xs.length c] h fun v h' => ∃ s e, v = .tuple #[s, .int .i64 e] ∧ ((RightT xs ∧ e = 0 ∧ St h0 h' (ownA bEnc 1 5 s (encT xs) :: l)) ∨ (¬ RightT xs ∧ e = 1 ∧ s = .slice none 0 0 ∧ St h0 h' l)) := by
  (refine enterK c_table_Encode (Nat.le_of_ble_eq_true rfl) fun K hK => ?_; (try simp (disch := first | omega | assumption | exact Nat.le_of_ble_eq_true rfl) only [go_sem, ↓mwp_block, Nat.reduceEqDiff, Nat.reduceAdd, Nat.reduceMul, Nat.reduceSub, Nat.reduceLeDiff, Nat.reduceLT, reduceIte, Int.reduceLT, Int.reduceLE, Int.reduceAdd, Int.reduceSub, Int.reduceMul, Int.reduceEq, Int.reduceToNat, Int.reduceNeg, Int.reduceNe, ir_table_Encode]))
  refine call_intro (Right_ok (ha _ S) rfl hl) ?_
  rintro _ h ⟨rfl, hf⟩
  have S := S.frame hf
  (try simp (disch := first | omega | assumption | exact Nat.le_of_ble_eq_true rfl) only [go_sem, ↓mwp_block, Nat.reduceEqDiff, Nat.reduceAdd, Nat.reduceMul, Nat.reduceSub, Nat.reduceLeDiff, Nat.reduceLT, reduceIte, Int.reduceLT, Int.reduceLE, Int.reduceAdd, Int.reduceSub, Int.reduceMul, Int.reduceEq, Int.reduceToNat, Int.reduceNeg, Int.reduceNe])
  refine cond_decn (fun hn => ?_) (fun hr => ?_)
  · (try simp (disch := first | omega | assumption | exact Nat.le_of_ble_eq_true rfl) only [go_sem, ↓mwp_block, Nat.reduceEqDiff, Nat.reduceAdd, Nat.reduceMul, Nat.reduceSub, Nat.reduceLeDiff, Nat.reduceLT, reduceIte, Int.reduceLT, Int.reduceLE, Int.reduceAdd, Int.reduceSub, Int.reduceMul, Int.reduceEq, Int.reduceToNat, Int.reduceNeg, Int.reduceNe])
    exact hK _ _ ⟨_, _, rfl, .inr ⟨hn, rfl, rfl, S⟩⟩
  · have h16 := hr.1
    (try simp (disch := first | omega | assumption | exact Nat.le_of_ble_eq_true rfl) only [go_sem, ↓mwp_block, Nat.reduceEqDiff, Nat.reduceAdd, Nat.reduceMul, Nat.reduceSub, Nat.reduceLeDiff, Nat.reduceLT, reduceIte, Int.reduceLT, Int.reduceLE, Int.reduceAdd, Int.reduceSub, Int.reduceMul, Int.reduceEq, Int.reduceToNat, Int.reduceNeg, Int.reduceNe])
    (refine st_alloc S ?_; clear S; intro o h S; (try simp only [splice_cons, splice_nil, List.set_cons_zero, List.set_cons_succ, Nat.zero_add, Nat.reduceAdd, List.cons_append, List.nil_append] at S); ((try clear F); have F := S.all; (try simp only [all_cons, all_nil, says_cell, and_true] at F)))
    (try simp (disch := first | omega | assumption | exact Nat.le_of_ble_eq_true rfl) only [go_sem, ↓mwp_block, Nat.reduceEqDiff, Nat.reduceAdd, Nat.reduceMul, Nat.reduceSub, Nat.reduceLeDiff, Nat.reduceLT, reduceIte, Int.reduceLT, Int.reduceLE, Int.reduceAdd, Int.reduceSub, Int.reduceMul, Int.reduceEq, Int.reduceToNat, Int.reduceNeg, Int.reduceNe])
    refine call_intro (U16_ok _ (out_new S) ⟨by omega, by omega⟩ (by simp)) fun r h S => ?_
    rw [(fit2 (by omega) (by omega)).1, (fit2 (v := (xs.length : Int)) (bs := []) (by omega) (by omega)).2, List.nil_append] at S
    (try simp (disch := first | omega | assumption | exact Nat.le_of_ble_eq_true rfl) only [go_sem, ↓mwp_block, Nat.reduceEqDiff, Nat.reduceAdd, Nat.reduceMul, Nat.reduceSub, Nat.reduceLeDiff, Nat.reduceLT, reduceIte, Int.reduceLT, Int.reduceLE, Int.reduceAdd, Int.reduceSub, Int.reduceMul, Int.reduceEq, Int.reduceToNat, Int.reduceNeg, Int.reduceNe])
    refine loop_intro (fun ρ h' => ρ 4 = .pointer (some ⟨o, 0, none⟩) ∧ ρ 17 = .slice A xs.length c ∧ ρ 18 = .int .i64 xs.length ∧ ∃ i : Nat, ρ 19 = .int .i64 i ∧ i ≤ xs.length ∧ St h0 h' (outA o (le 2 xs.length ++ (xs.take i).flatMap Pol.bytes) false :: l)) (fun ρ _ => xs.length - (iv (ρ 19)).toNat) ?_ ?_
    · (try simp (disch := first | omega | assumption | exact Nat.le_of_ble_eq_true rfl) only [go_sem, ↓mwp_block, Nat.reduceEqDiff, Nat.reduceAdd, Nat.reduceMul, Nat.reduceSub, Nat.reduceLeDiff, Nat.reduceLT, reduceIte, Int.reduceLT, Int.reduceLE, Int.reduceAdd, Int.reduceSub, Int.reduceMul, Int.reduceEq, Int.reduceToNat, Int.reduceNeg, Int.reduceNe])
      exact ⟨0, rfl, Nat.zero_le _, by simpa using S⟩
    · clear S F
      rintro ρ h J hJ ⟨e4, e17, e18, i, e19, hi, S⟩
      (try simp (disch := first | omega | assumption | exact Nat.le_of_ble_eq_true rfl) only [go_sem, ↓mwp_block, Nat.reduceEqDiff, Nat.reduceAdd, Nat.reduceMul, Nat.reduceSub, Nat.reduceLeDiff, Nat.reduceLT, reduceIte, Int.reduceLT, Int.reduceLE, Int.reduceAdd, Int.reduceSub, Int.reduceMul, Int.reduceEq, Int.reduceToNat, Int.reduceNeg, Int.reduceNe, e18, e19])
      refine cond_dec (fun hg => ?_) (fun hg => ?_)
      · have hlt : i < xs.length := by omega
        obtain ⟨b, off, rfl, hr1⟩ := (ha _ S.tl).at hlt
        have hp := hr.2 xs[i] (List.getElem_mem hlt)
        have htk : (xs.take (i + 1)).flatMap Pol.bytes = (xs.take i).flatMap Pol.bytes ++ xs[i].bytes := by
          rw [List.take_succ_eq_append_getElem hlt, List.flatMap_append]; simp
        generalize xs[i] = p at hr1 hp htk
        obtain ⟨⟨p0, p1, p2, p3⟩, ⟨⟨q0, u0⟩, ⟨q1, u1⟩, ⟨q2, u2⟩, q3, u3⟩, w0, w1⟩ := hp
        simp only [okPts] at p0 p1 p2 p3 q0 q1 q2 q3
        have hfl := flagsOf_lt p
        generalize hbs : le 2 (xs.length : Int) ++ (xs.take i).flatMap Pol.bytes = bs at S
        have hbl : bs.length ≤ 400 := by rw [← hbs, List.length_append, bytes_len, le_length, List.length_take]; omega
        ((try clear F); have F := S.all; (try simp only [all_cons, all_nil, says_cell, and_true] at F))
        (try simp (disch := first | omega | assumption | exact Nat.le_of_ble_eq_true rfl) only [go_sem, ↓mwp_block, Nat.reduceEqDiff, Nat.reduceAdd, Nat.reduceMul, Nat.reduceSub, Nat.reduceLeDiff, Nat.reduceLT, reduceIte, Int.reduceLT, Int.reduceLE, Int.reduceAdd, Int.reduceSub, Int.reduceMul, Int.reduceEq, Int.reduceToNat, Int.reduceNeg, Int.reduceNe, e4, e17, e19, hr1])
        (refine st_alloc S ?_; clear S; intro g h S; (try simp only [splice_cons, splice_nil, List.set_cons_zero, List.set_cons_succ, Nat.zero_add, Nat.reduceAdd, List.cons_append, List.nil_append] at S); ((try clear F); have F := S.all; (try simp only [all_cons, all_nil, says_cell, and_true] at F)))
        (try simp (disch := first | omega | assumption | exact Nat.le_of_ble_eq_true rfl) only [go_sem, ↓mwp_block, Nat.reduceEqDiff, Nat.reduceAdd, Nat.reduceMul, Nat.reduceSub, Nat.reduceLeDiff, Nat.reduceLT, reduceIte, Int.reduceLT, Int.reduceLE, Int.reduceAdd, Int.reduceSub, Int.reduceMul, Int.reduceEq, Int.reduceToNat, Int.reduceNeg, Int.reduceNe, e4, F, Pol.enc])
        (refine st_store (by first | exact S | exact S.p1 | exact S.p2 | exact S.p3 | exact S.p4 | exact S.p5 | exact S.p6 | exact S.p7 | exact S.p8 | exact S.p9 | exact S.p10 | exact S.p11) (by rfl) (by rfl) (Nat.le_of_ble_eq_true rfl) ?_; clear S; intro h S; (try simp only [splice_cons, splice_nil, List.set_cons_zero, List.set_cons_succ, Nat.zero_add, Nat.reduceAdd, List.cons_append, List.nil_append] at S); ((try clear F); have F := S.all; (try simp only [all_cons, all_nil, says_cell, and_true] at F)))
        (try simp (disch := first | omega | assumption | exact Nat.le_of_ble_eq_true rfl) only [go_sem, ↓mwp_block, Nat.reduceEqDiff, Nat.reduceAdd, Nat.reduceMul, Nat.reduceSub, Nat.reduceLeDiff, Nat.reduceLT, reduceIte, Int.reduceLT, Int.reduceLE, Int.reduceAdd, Int.reduceSub, Int.reduceMul, Int.reduceEq, Int.reduceToNat, Int.reduceNeg, Int.reduceNe, e4, F])
        refine call_intro (U16_ok _ (by first | exact S | exact S.p1 | exact S.p2 | exact S.p3 | exact S.p4 | exact S.p5 | exact S.p6 | exact S.p7 | exact S.p8 | exact S.p9 | exact S.p10 | exact S.p11) ⟨by omega, by omega⟩ (by (try simp only [List.length_append, le_length]); omega)) fun r h S => ?_
        rw [(fit2 (by omega) (by omega)).1, (fit2 (bs := []) (by omega) (by omega)).2] at S
        ((try clear F); have F := S.all; (try simp only [all_cons, all_nil, says_cell, and_true] at F))
        (try simp (disch := first | omega | assumption | exact Nat.le_of_ble_eq_true rfl) only [go_sem, ↓mwp_block, Nat.reduceEqDiff, Nat.reduceAdd, Nat.reduceMul, Nat.reduceSub, Nat.reduceLeDiff, Nat.reduceLT, reduceIte, Int.reduceLT, Int.reduceLE, Int.reduceAdd, Int.reduceSub, Int.reduceMul, Int.reduceEq, Int.reduceToNat, Int.reduceNeg, Int.reduceNe, e4, F])
        refine call_intro (flags_ok p _) ?_
        rintro _ h ⟨rfl, hf⟩
        have S := S.frame hf
        (try simp (disch := first | omega | assumption | exact Nat.le_of_ble_eq_true rfl) only [go_sem, ↓mwp_block, Nat.reduceEqDiff, Nat.reduceAdd, Nat.reduceMul, Nat.reduceSub, Nat.reduceLeDiff, Nat.reduceLT, reduceIte, Int.reduceLT, Int.reduceLE, Int.reduceAdd, Int.reduceSub, Int.reduceMul, Int.reduceEq, Int.reduceToNat, Int.reduceNeg, Int.reduceNe, e4])
        refine call_intro (U8_ok _ (by first | exact S | exact S.p1 | exact S.p2 | exact S.p3 | exact S.p4 | exact S.p5 | exact S.p6 | exact S.p7 | exact S.p8 | exact S.p9 | exact S.p10 | exact S.p11) ⟨by omega, by omega⟩ (by (try simp only [List.length_append, le_length]); omega)) fun r h S => ?_
        rw [(fit1 (by omega) (by omega)).1, (fit1 (bs := []) (by omega) (by omega)).2] at S
        ((try clear F); have F := S.all; (try simp only [all_cons, all_nil, says_cell, and_true] at F))
        (try simp (disch := first | omega | assumption | exact Nat.le_of_ble_eq_true rfl) only [go_sem, ↓mwp_block, Nat.reduceEqDiff, Nat.reduceAdd, Nat.reduceMul, Nat.reduceSub, Nat.reduceLeDiff, Nat.reduceLT, reduceIte, Int.reduceLT, Int.reduceLE, Int.reduceAdd, Int.reduceSub, Int.reduceMul, Int.reduceEq, Int.reduceToNat, Int.reduceNeg, Int.reduceNe, e4, F])
        refine loop_unroll 5 ?_
        (try simp (disch := first | omega | assumption | exact Nat.le_of_ble_eq_true rfl) only [go_sem, ↓mwp_block, Nat.reduceEqDiff, Nat.reduceAdd, Nat.reduceMul, Nat.reduceSub, Nat.reduceLeDiff, Nat.reduceLT, reduceIte, Int.reduceLT, Int.reduceLE, Int.reduceAdd, Int.reduceSub, Int.reduceMul, Int.reduceEq, Int.reduceToNat, Int.reduceNeg, Int.reduceNe, e4])
        iterate 4
          refine call_intro (U16_ok _ (by first | exact S | exact S.p1 | exact S.p2 | exact S.p3 | exact S.p4 | exact S.p5 | exact S.p6 | exact S.p7 | exact S.p8 | exact S.p9 | exact S.p10 | exact S.p11) ⟨by omega, by omega⟩ (by (try simp only [List.length_append, le_length]); omega)) fun r h S => ?_
          rw [(fit2 (by omega) (by omega)).1, (fit2 (bs := []) (by omega) (by omega)).2] at S
          ((try clear F); have F := S.all; (try simp only [all_cons, all_nil, says_cell, and_true] at F))
          (try simp (disch := first | omega | assumption | exact Nat.le_of_ble_eq_true rfl) only [go_sem, ↓mwp_block, Nat.reduceEqDiff, Nat.reduceAdd, Nat.reduceMul, Nat.reduceSub, Nat.reduceLeDiff, Nat.reduceLT, reduceIte, Int.reduceLT, Int.reduceLE, Int.reduceAdd, Int.reduceSub, Int.reduceMul, Int.reduceEq, Int.reduceToNat, Int.reduceNeg, Int.reduceNe, e4])
        (try simp (disch := first | omega | assumption | exact Nat.le_of_ble_eq_true rfl) only [go_sem, ↓mwp_block, Nat.reduceEqDiff, Nat.reduceAdd, Nat.reduceMul, Nat.reduceSub, Nat.reduceLeDiff, Nat.reduceLT, reduceIte, Int.reduceLT, Int.reduceLE, Int.reduceAdd, Int.reduceSub, Int.reduceMul, Int.reduceEq, Int.reduceToNat, Int.reduceNeg, Int.reduceNe, e4, F])
        refine loop_unroll 5 ?_
        (try simp (disch := first | omega | assumption | exact Nat.le_of_ble_eq_true rfl) only [go_sem, ↓mwp_block, Nat.reduceEqDiff, Nat.reduceAdd, Nat.reduceMul, Nat.reduceSub, Nat.reduceLeDiff, Nat.reduceLT, reduceIte, Int.reduceLT, Int.reduceLE, Int.reduceAdd, Int.reduceSub, Int.reduceMul, Int.reduceEq, Int.reduceToNat, Int.reduceNeg, Int.reduceNe, e4])
        iterate 4
          (refine st_alloc S ?_; clear S; intro q h S; (try simp only [splice_cons, splice_nil, List.set_cons_zero, List.set_cons_succ, Nat.zero_add, Nat.reduceAdd, List.cons_append, List.nil_append] at S); ((try clear F); have F := S.all; (try simp only [all_cons, all_nil, says_cell, and_true] at F)))
          (try simp (disch := first | omega | assumption | exact Nat.le_of_ble_eq_true rfl) only [go_sem, ↓mwp_block, Nat.reduceEqDiff, Nat.reduceAdd, Nat.reduceMul, Nat.reduceSub, Nat.reduceLeDiff, Nat.reduceLT, reduceIte, Int.reduceLT, Int.reduceLE, Int.reduceAdd, Int.reduceSub, Int.reduceMul, Int.reduceEq, Int.reduceToNat, Int.reduceNeg, Int.reduceNe, e4, F])
          (refine st_store (by first | exact S | exact S.p1 | exact S.p2 | exact S.p3 | exact S.p4 | exact S.p5 | exact S.p6 | exact S.p7 | exact S.p8 | exact S.p9 | exact S.p10 | exact S.p11) (by rfl) (by rfl) (Nat.le_of_ble_eq_true rfl) ?_; clear S; intro h S; (try simp only [splice_cons, splice_nil, List.set_cons_zero, List.set_cons_succ, Nat.zero_add, Nat.reduceAdd, List.cons_append, List.nil_append] at S); ((try clear F); have F := S.all; (try simp only [all_cons, all_nil, says_cell, and_true] at F)))
          (try simp (disch := first | omega | assumption | exact Nat.le_of_ble_eq_true rfl) only [go_sem, ↓mwp_block, Nat.reduceEqDiff, Nat.reduceAdd, Nat.reduceMul, Nat.reduceSub, Nat.reduceLeDiff, Nat.reduceLT, reduceIte, Int.reduceLT, Int.reduceLE, Int.reduceAdd, Int.reduceSub, Int.reduceMul, Int.reduceEq, Int.reduceToNat, Int.reduceNeg, Int.reduceNe, e4, F])
          refine call_intro (U16_ok _ (by first | exact S | exact S.p1 | exact S.p2 | exact S.p3 | exact S.p4 | exact S.p5 | exact S.p6 | exact S.p7 | exact S.p8 | exact S.p9 | exact S.p10 | exact S.p11) ⟨by omega, by omega⟩ (by (try simp only [List.length_append, le_length]); omega)) fun r h S => ?_
          rw [(fit2 (by omega) (by omega)).1, (fit2 (bs := []) (by omega) (by omega)).2] at S
          ((try clear F); have F := S.all; (try simp only [all_cons, all_nil, says_cell, and_true] at F))
          (try simp (disch := first | omega | assumption | exact Nat.le_of_ble_eq_true rfl) only [go_sem, ↓mwp_block, Nat.reduceEqDiff, Nat.reduceAdd, Nat.reduceMul, Nat.reduceSub, Nat.reduceLeDiff, Nat.reduceLT, reduceIte, Int.reduceLT, Int.reduceLE, Int.reduceAdd, Int.reduceSub, Int.reduceMul, Int.reduceEq, Int.reduceToNat, Int.reduceNeg, Int.reduceNe, e4, F])
          refine call_intro (U8_ok _ (by first | exact S | exact S.p1 | exact S.p2 | exact S.p3 | exact S.p4 | exact S.p5 | exact S.p6 | exact S.p7 | exact S.p8 | exact S.p9 | exact S.p10 | exact S.p11) ⟨by omega, by omega⟩ (by (try simp only [List.length_append, le_length]); omega)) fun r h S => ?_
          rw [(fit1 (by omega) (by omega)).1, (fit1 (bs := []) (by omega) (by omega)).2] at S
          ((try clear F); have F := S.all; (try simp only [all_cons, all_nil, says_cell, and_true] at F))
          (try simp (disch := first | omega | assumption | exact Nat.le_of_ble_eq_true rfl) only [go_sem, ↓mwp_block, Nat.reduceEqDiff, Nat.reduceAdd, Nat.reduceMul, Nat.reduceSub, Nat.reduceLeDiff, Nat.reduceLT, reduceIte, Int.reduceLT, Int.reduceLE, Int.reduceAdd, Int.reduceSub, Int.reduceMul, Int.reduceEq, Int.reduceToNat, Int.reduceNeg, Int.reduceNe, e4])
        have S := S.d1.d1.d1.d1.d1
        (try simp (disch := first | omega | assumption | exact Nat.le_of_ble_eq_true rfl) only [go_sem, ↓mwp_block, Nat.reduceEqDiff, Nat.reduceAdd, Nat.reduceMul, Nat.reduceSub, Nat.reduceLeDiff, Nat.reduceLT, reduceIte, Int.reduceLT, Int.reduceLE, Int.reduceAdd, Int.reduceSub, Int.reduceMul, Int.reduceEq, Int.reduceToNat, Int.reduceNeg, Int.reduceNe, e19])
        refine hJ _ _ ?_ ?_
        · (try simp (disch := first | omega | assumption | exact Nat.le_of_ble_eq_true rfl) only [go_sem, ↓mwp_block, Nat.reduceEqDiff, Nat.reduceAdd, Nat.reduceMul, Nat.reduceSub, Nat.reduceLeDiff, Nat.reduceLT, reduceIte, Int.reduceLT, Int.reduceLE, Int.reduceAdd, Int.reduceSub, Int.reduceMul, Int.reduceEq, Int.reduceToNat, Int.reduceNeg, Int.reduceNe, e4, e17, e18, e19])
          refine ⟨i + 1, rfl, by omega, ?_⟩
          rw [htk]
          simpa only [Pol.bytes, ← hbs, List.append_assoc] using S
        · (try simp (disch := first | omega | assumption | exact Nat.le_of_ble_eq_true rfl) only [go_sem, ↓mwp_block, Nat.reduceEqDiff, Nat.reduceAdd, Nat.reduceMul, Nat.reduceSub, Nat.reduceLeDiff, Nat.reduceLT, reduceIte, Int.reduceLT, Int.reduceLE, Int.reduceAdd, Int.reduceSub, Int.reduceMul, Int.reduceEq, Int.reduceToNat, Int.reduceNeg, Int.reduceNe, e19])
          omega
      · obtain rfl : i = xs.length := by omega
        rw [List.take_length] at S
        (try simp (disch := first | omega | assumption | exact Nat.le_of_ble_eq_true rfl) only [go_sem, ↓mwp_block, Nat.reduceEqDiff, Nat.reduceAdd, Nat.reduceMul, Nat.reduceSub, Nat.reduceLeDiff, Nat.reduceLT, reduceIte, Int.reduceLT, Int.reduceLE, Int.reduceAdd, Int.reduceSub, Int.reduceMul, Int.reduceEq, Int.reduceToNat, Int.reduceNeg, Int.reduceNe, e4])
        refine call_intro (End_ok S (by rw [List.length_append, bytes_len, le_length]; omega)) ?_
        rintro _ h ⟨s, rfl, S⟩
        (try simp (disch := first | omega | assumption | exact Nat.le_of_ble_eq_true rfl) only [go_sem, ↓mwp_block, Nat.reduceEqDiff, Nat.reduceAdd, Nat.reduceMul, Nat.reduceSub, Nat.reduceLeDiff, Nat.reduceLT, reduceIte, Int.reduceLT, Int.reduceLE, Int.reduceAdd, Int.reduceSub, Int.reduceMul, Int.reduceEq, Int.reduceToNat, Int.reduceNeg, Int.reduceNe])
        exact hK _ _ ⟨_, _, rfl, .inl ⟨hr, rfl, S.d1⟩⟩
end Go.Proofs.Ytackopkhelochaa.MX
