/- Texts in one file: Cd1, Tb1. -/
import Derived.Test.YtblalmgahfbalaaK10
import Derived.Test.YtblalmgahfbalaaIR

/- What is written: numbers and bytes put behind each other (codec.Out). -/
namespace Go.Proofs.Ytblalmgahfbalaa.MX
open Go Go.Proofs
set_option linter.unusedSimpArgs false
set_option linter.unusedVariables false

def outA (o : Nat) (bs : List UInt8) (bad : Bool) : HP := exA fun s => starsA [cellA o [s, .bool bad] 89, ownA bEnc 1 5 s bs]
theorem outA_open {h0 h : Heap} {l : List HP} {o : Nat} {bs : List UInt8} {bad : Bool} : St h0 h (outA o bs bad :: l) ↔ ∃ s, St h0 h (cellA o [s, .bool bad] 89 :: ownA bEnc 1 5 s bs :: l) :=
  St.ex.trans (exists_congr fun _ => St.stars)

theorem number_ok (v : Int) (n : Nat) {h0 h : Heap} {l : List HP} {o : Nat} {bs : List UInt8} {bad : Bool} (S : St h0 h (outA o bs bad :: l)) (hv : 0 ≤ v ∧ v < 18446744073709551616) (hn : n ≤ 8) (hl : bs.length < 1000000) :
    CallsH Try.prog 72 [.pointer (some ⟨o, 0, none⟩), .int .u64 v, .int .i64 n] h fun r h' => St h0 h' (outA o (bs ++ le n v) bad :: l) := by
  (refine enterK c_codec_Out_number (Nat.le_of_ble_eq_true rfl) fun K hK => ?_; (try simp (maxSteps := 1000000) (disch := first | omega | assumption | exact Nat.le_of_ble_eq_true rfl) only [go_sem, ↓mwp_block, simprocAttr, ir_codec_Out_number]))
  refine loop_intro (fun ρ h' => ρ 0 = .pointer (some ⟨o, 0, none⟩) ∧ ρ 6 = .int .i64 n ∧ ∃ i : Nat, ρ 7 = .int .i64 i ∧ i ≤ n ∧ ρ 1 = .int .u64 (v / 256 ^ i) ∧ St h0 h' (outA o (bs ++ le i v) bad :: l)) (fun ρ _ => n - (iv (ρ 7)).toNat) ?_ ?_
  · (try simp (maxSteps := 1000000) (disch := first | omega | assumption | exact Nat.le_of_ble_eq_true rfl) only [go_sem, ↓mwp_block, simprocAttr])
    refine ⟨0, rfl, Nat.zero_le _, ?_, ?_⟩
    · simp
    · simpa [le] using S
  · clear S
    rintro ρ h J hJ ⟨e0, e6, i, e7, hi, e1, S⟩
    obtain ⟨s, S⟩ := outA_open.1 S
    obtain ⟨A, c, rfl⟩ := S.p1.sl
    ((try clear F); have F := S.all; (try simp only [all_cons, all_nil, says_cell, and_true] at F))
    (try simp (maxSteps := 1000000) (disch := first | omega | assumption | exact Nat.le_of_ble_eq_true rfl) only [go_sem, ↓mwp_block, simprocAttr, e7, e6])
    refine cond_dec (fun hg => ?_) (fun hg => ?_)
    · have hp : (0 : Int) < 256 ^ i := Int.pow_pos (by decide)
      have h1 : 0 ≤ v / 256 ^ i := Int.ediv_nonneg hv.1 (Int.le_of_lt hp)
      have h2 : v / 256 ^ i ≤ v := Int.ediv_le_self _ hv.1
      (try simp (maxSteps := 1000000) (disch := first | omega | assumption | exact Nat.le_of_ble_eq_true rfl) only [go_sem, ↓mwp_block, simprocAttr, e0, e1, e7, F, wrap_u8B])
      (refine st_alloc S ?_; clear S; intro b h S; (try simp only [splice_cons, splice_nil, List.set_cons_zero, List.set_cons_succ, Nat.zero_add, Nat.reduceAdd, List.cons_append, List.nil_append] at S); ((try clear F); have F := S.all; (try simp only [all_cons, all_nil, says_cell, and_true] at F)))
      (try simp (maxSteps := 1000000) (disch := first | omega | assumption | exact Nat.le_of_ble_eq_true rfl) only [go_sem, ↓mwp_block, simprocAttr, e0, e1, e7, F])
      refine st_append1 (bytes := 1) (x := B8 (v / 256 ^ i)) bEnc_len (by omega) bEnc_plain rfl rfl (S.p2.p1) (by simp [le_length]; omega) (by simp [le_length]; omega) ?_
      clear S F
      intro v' h S
      obtain ⟨A', c', rfl⟩ := S.sl
      ((try clear F); have F := S.all; (try simp only [all_cons, all_nil, says_cell, and_true] at F))
      (try simp (maxSteps := 1000000) (disch := first | omega | assumption | exact Nat.le_of_ble_eq_true rfl) only [go_sem, ↓mwp_block, simprocAttr, e0, e1, e7, F])
      (refine st_store (by first | exact S | exact S.p1 | exact S.p2 | exact S.p3 | exact S.p4 | exact S.p5 | exact S.p6 | exact S.p7 | exact S.p8 | exact S.p9 | exact S.p10 | exact S.p11) (by rfl) (by rfl) (Nat.le_of_ble_eq_true rfl) ?_; clear S; intro h S; (try simp only [splice_cons, splice_nil, List.set_cons_zero, List.set_cons_succ, Nat.zero_add, Nat.reduceAdd, List.cons_append, List.nil_append] at S); ((try clear F); have F := S.all; (try simp only [all_cons, all_nil, says_cell, and_true] at F)))
      have e : v / 256 ^ i / 256 = v / 256 ^ (i + 1) := by rw [Int.pow_succ, Int.ediv_ediv_of_nonneg (Int.le_of_lt hp)]
      (try simp (maxSteps := 1000000) (disch := first | omega | assumption | exact Nat.le_of_ble_eq_true rfl) only [go_sem, ↓mwp_block, simprocAttr, e0, e1, e7, F])
      refine hJ _ _ ?_ ?_
      · (try simp (maxSteps := 1000000) (disch := first | omega | assumption | exact Nat.le_of_ble_eq_true rfl) only [go_sem, ↓mwp_block, simprocAttr, e0, e6, e7])
        refine ⟨i + 1, rfl, by omega, ?_, ?_⟩
        · rw [← e, ← shr8]
        · have S := outA_open.2 ⟨_, S⟩
          rwa [List.append_assoc, ← le_succ] at S
      · (try simp (maxSteps := 1000000) (disch := first | omega | assumption | exact Nat.le_of_ble_eq_true rfl) only [go_sem, ↓mwp_block, simprocAttr, e7])
        omega
    · (try simp (maxSteps := 1000000) (disch := first | omega | assumption | exact Nat.le_of_ble_eq_true rfl) only [go_sem, ↓mwp_block, simprocAttr])
      obtain rfl : i = n := by omega
      exact hK _ _ (outA_open.2 ⟨_, S⟩)

/-- What is written once a number is put in n bytes. -/
def putBad (n : Nat) (v : Int) (bad : Bool) : Bool := bad || decide (¬ (0 ≤ v ∧ v < 256 ^ n))
def putBs (n : Nat) (v : Int) (bs : List UInt8) (bad : Bool) : List UInt8 := if putBad n v bad then bs else bs ++ le n v
theorem small_ok (v : Int) (n : Nat) {h0 h : Heap} {l : List HP} {o : Nat} {bs : List UInt8} {bad : Bool} (S : St h0 h (outA o bs bad :: l)) (hv : I64 v) (hn : 1 ≤ n ∧ n ≤ 4) (hl : bs.length < 1000000) :
    CallsH Try.prog 71 [.pointer (some ⟨o, 0, none⟩), .int .i64 v, .int .i64 n] h fun r h' => St h0 h' (outA o (putBs n v bs bad) (putBad n v bad) :: l) := by
  obtain ⟨hv1, hv2⟩ := hv
  have hw : IntKind.i64.wrap (8 * n) = 8 * n := wrap_i64 (by omega) (by omega)
  have hs : v.fdiv (2 ^ (min (8 * (n : Int)).toNat 64)) = v / 256 ^ n := by
    rw [← shr_256, show min (8 * (n : Int)).toNat 64 = 8 * n by omega]
  have h256 : (256 : Int) ^ n ≤ 256 ^ 4 := by
    obtain rfl | rfl | rfl | rfl : n = 1 ∨ n = 2 ∨ n = 3 ∨ n = 4 := by omega
    all_goals decide
  have hz := fdiv_zero_iff n v
  (refine enterK c_codec_Out_small (Nat.le_of_ble_eq_true rfl) fun K hK => ?_; (try simp (maxSteps := 1000000) (disch := first | omega | assumption | exact Nat.le_of_ble_eq_true rfl) only [go_sem, ↓mwp_block, simprocAttr, ir_codec_Out_small]))
  obtain ⟨s, S⟩ := outA_open.1 S
  ((try clear F); have F := S.all; (try simp only [all_cons, all_nil, says_cell, and_true] at F))
  by_cases hr : 0 ≤ v ∧ v < 256 ^ n
  · have hq := hz.2 hr
    have hu : IntKind.u64.wrap v = v := wrap_u64 hr.1 (by omega)
    have hpb : putBad n v bad = bad := by simp [putBad, hr]
    (try simp (maxSteps := 1000000) (disch := first | omega | assumption | exact Nat.le_of_ble_eq_true rfl) only [go_sem, ↓mwp_block, simprocAttr, hw, hs, hq, F, hu])
    cases bad
    · (try simp (maxSteps := 1000000) (disch := first | omega | assumption | exact Nat.le_of_ble_eq_true rfl) only [go_sem, ↓mwp_block, simprocAttr, F, hu])
      refine call_intro (number_ok v n (outA_open.2 ⟨_, S⟩) (by omega) (by omega) hl) ?_
      intro r h' S
      (try simp (maxSteps := 1000000) (disch := first | omega | assumption | exact Nat.le_of_ble_eq_true rfl) only [go_sem, ↓mwp_block, simprocAttr])
      refine hK _ _ ?_
      rw [putBs, hpb]
      exact S
    · (try simp (maxSteps := 1000000) (disch := first | omega | assumption | exact Nat.le_of_ble_eq_true rfl) only [go_sem, ↓mwp_block, simprocAttr, F])
      refine hK _ _ ?_
      rw [putBs, hpb]
      exact outA_open.2 ⟨_, S⟩
  · have hq : ¬ v / 256 ^ n = 0 := fun h => hr (hz.1 h)
    have hpb : putBad n v bad = true := by simp [putBad, hr]
    by_cases h0' : v < 0
    · (try simp (maxSteps := 1000000) (disch := first | omega | assumption | exact Nat.le_of_ble_eq_true rfl) only [go_sem, ↓mwp_block, simprocAttr, hw, hs, hq, F, h0'])
      (refine st_store (by first | exact S | exact S.p1 | exact S.p2 | exact S.p3 | exact S.p4 | exact S.p5 | exact S.p6 | exact S.p7 | exact S.p8 | exact S.p9 | exact S.p10 | exact S.p11) (by rfl) (by rfl) (Nat.le_of_ble_eq_true rfl) ?_; clear S; intro h S; (try simp only [splice_cons, splice_nil, List.set_cons_zero, List.set_cons_succ, Nat.zero_add, Nat.reduceAdd, List.cons_append, List.nil_append] at S); ((try clear F); have F := S.all; (try simp only [all_cons, all_nil, says_cell, and_true] at F)))
      (try simp (maxSteps := 1000000) (disch := first | omega | assumption | exact Nat.le_of_ble_eq_true rfl) only [go_sem, ↓mwp_block, simprocAttr, F])
      refine hK _ _ ?_
      rw [putBs, hpb]
      exact outA_open.2 ⟨_, S⟩
    · (try simp (maxSteps := 1000000) (disch := first | omega | assumption | exact Nat.le_of_ble_eq_true rfl) only [go_sem, ↓mwp_block, simprocAttr, hw, hs, hq, F, h0'])
      (refine st_store (by first | exact S | exact S.p1 | exact S.p2 | exact S.p3 | exact S.p4 | exact S.p5 | exact S.p6 | exact S.p7 | exact S.p8 | exact S.p9 | exact S.p10 | exact S.p11) (by rfl) (by rfl) (Nat.le_of_ble_eq_true rfl) ?_; clear S; intro h S; (try simp only [splice_cons, splice_nil, List.set_cons_zero, List.set_cons_succ, Nat.zero_add, Nat.reduceAdd, List.cons_append, List.nil_append] at S); ((try clear F); have F := S.all; (try simp only [all_cons, all_nil, says_cell, and_true] at F)))
      (try simp (maxSteps := 1000000) (disch := first | omega | assumption | exact Nat.le_of_ble_eq_true rfl) only [go_sem, ↓mwp_block, simprocAttr, F])
      refine hK _ _ ?_
      rw [putBs, hpb]
      exact outA_open.2 ⟨_, S⟩
theorem U8_ok (v : Int) {h0 h : Heap} {l : List HP} {o : Nat} {bs : List UInt8} {bad : Bool} (S : St h0 h (outA o bs bad :: l)) (hv : I64 v) (hl : bs.length < 1000000) :
    CallsH Try.prog 45 [.pointer (some ⟨o, 0, none⟩), .int .i64 v] h fun r h' => St h0 h' (outA o (putBs 1 v bs bad) (putBad 1 v bad) :: l) := by
  (refine enterK c_codec_Out_U8 (Nat.le_of_ble_eq_true rfl) fun K hK => ?_; (try simp (maxSteps := 1000000) (disch := first | omega | assumption | exact Nat.le_of_ble_eq_true rfl) only [go_sem, ↓mwp_block, simprocAttr, ir_codec_Out_U8]))
  refine call_intro (small_ok v 1 S hv (by omega) hl) fun r h' S => ?_
  (try simp (maxSteps := 1000000) (disch := first | omega | assumption | exact Nat.le_of_ble_eq_true rfl) only [go_sem, ↓mwp_block, simprocAttr])
  exact hK _ _ S
theorem U16_ok (v : Int) {h0 h : Heap} {l : List HP} {o : Nat} {bs : List UInt8} {bad : Bool} (S : St h0 h (outA o bs bad :: l)) (hv : I64 v) (hl : bs.length < 1000000) :
    CallsH Try.prog 48 [.pointer (some ⟨o, 0, none⟩), .int .i64 v] h fun r h' => St h0 h' (outA o (putBs 2 v bs bad) (putBad 2 v bad) :: l) := by
  (refine enterK c_codec_Out_U16 (Nat.le_of_ble_eq_true rfl) fun K hK => ?_; (try simp (maxSteps := 1000000) (disch := first | omega | assumption | exact Nat.le_of_ble_eq_true rfl) only [go_sem, ↓mwp_block, simprocAttr, ir_codec_Out_U16]))
  refine call_intro (small_ok v 2 S hv (by omega) hl) fun r h' S => ?_
  (try simp (maxSteps := 1000000) (disch := first | omega | assumption | exact Nat.le_of_ble_eq_true rfl) only [go_sem, ↓mwp_block, simprocAttr])
  exact hK _ _ S
theorem U32_ok (v : Int) {h0 h : Heap} {l : List HP} {o : Nat} {bs : List UInt8} {bad : Bool} (S : St h0 h (outA o bs bad :: l)) (hv : I64 v) (hl : bs.length < 1000000) :
    CallsH Try.prog 46 [.pointer (some ⟨o, 0, none⟩), .int .i64 v] h fun r h' => St h0 h' (outA o (putBs 4 v bs bad) (putBad 4 v bad) :: l) := by
  (refine enterK c_codec_Out_U32 (Nat.le_of_ble_eq_true rfl) fun K hK => ?_; (try simp (maxSteps := 1000000) (disch := first | omega | assumption | exact Nat.le_of_ble_eq_true rfl) only [go_sem, ↓mwp_block, simprocAttr, ir_codec_Out_U32]))
  refine call_intro (small_ok v 4 S hv (by omega) hl) fun r h' S => ?_
  (try simp (maxSteps := 1000000) (disch := first | omega | assumption | exact Nat.le_of_ble_eq_true rfl) only [go_sem, ↓mwp_block, simprocAttr])
  exact hK _ _ S
theorem Plain_ok {A : Option Addr} {c : Nat} (ys : List UInt8) {h0 h : Heap} {l : List HP} {o : Nat} {bs : List UInt8} {bad : Bool} (S : St h0 h (outA o bs bad :: l)) (ha : Arr bEnc 1 h A ys) (hl : bs.length + ys.length < 1000000) :
    CallsH Try.prog 70 [.pointer (some ⟨o, 0, none⟩), .slice A ys.length c] h fun r h' => St h0 h' (outA o (if bad then bs else bs ++ ys) bad :: l) := by
  (refine enterK c_codec_Out_Plain (Nat.le_of_ble_eq_true rfl) fun K hK => ?_; (try simp (maxSteps := 1000000) (disch := first | omega | assumption | exact Nat.le_of_ble_eq_true rfl) only [go_sem, ↓mwp_block, simprocAttr, ir_codec_Out_Plain]))
  obtain ⟨s, S⟩ := outA_open.1 S
  obtain ⟨B, d, rfl⟩ := S.p1.sl
  ((try clear F); have F := S.all; (try simp only [all_cons, all_nil, says_cell, and_true] at F))
  (try simp (maxSteps := 1000000) (disch := first | omega | assumption | exact Nat.le_of_ble_eq_true rfl) only [go_sem, ↓mwp_block, simprocAttr, F])
  cases bad
  · (try simp (maxSteps := 1000000) (disch := first | omega | assumption | exact Nat.le_of_ble_eq_true rfl) only [go_sem, ↓mwp_block, simprocAttr, F])
    refine st_append (bytes := 1) (ys := ys) bEnc_len (by omega) bEnc_plain rfl S.p1 rfl (src_arr bEnc_len ha rfl) (by omega) (by omega) ?_
    clear S F
    intro v' h S
    obtain ⟨A', c', rfl⟩ := S.sl
    ((try clear F); have F := S.all; (try simp only [all_cons, all_nil, says_cell, and_true] at F))
    (try simp (maxSteps := 1000000) (disch := first | omega | assumption | exact Nat.le_of_ble_eq_true rfl) only [go_sem, ↓mwp_block, simprocAttr, F])
    (refine st_store (by first | exact S | exact S.p1 | exact S.p2 | exact S.p3 | exact S.p4 | exact S.p5 | exact S.p6 | exact S.p7 | exact S.p8 | exact S.p9 | exact S.p10 | exact S.p11) (by rfl) (by rfl) (Nat.le_of_ble_eq_true rfl) ?_; clear S; intro h S; (try simp only [splice_cons, splice_nil, List.set_cons_zero, List.set_cons_succ, Nat.zero_add, Nat.reduceAdd, List.cons_append, List.nil_append] at S); ((try clear F); have F := S.all; (try simp only [all_cons, all_nil, says_cell, and_true] at F)))
    (try simp (maxSteps := 1000000) (disch := first | omega | assumption | exact Nat.le_of_ble_eq_true rfl) only [go_sem, ↓mwp_block, simprocAttr])
    exact hK _ _ (outA_open.2 ⟨_, S⟩)
  · (try simp (maxSteps := 1000000) (disch := first | omega | assumption | exact Nat.le_of_ble_eq_true rfl) only [go_sem, ↓mwp_block, simprocAttr, F])
    exact hK _ _ (outA_open.2 ⟨_, S⟩)
/-- All that was put, in new memory; or what is wrong. -/
theorem CloneB_ok {A : Option Addr} {n c : Nat} {xs : List UInt8} {h0 h : Heap} {l : List HP} (S : St h0 h l) (ha : Arr bEnc 1 h A xs) (hn : n = xs.length) (hA : A = none → xs = []) (hl : xs.length < 1000000000) :
    CallsH Try.prog 63 [.slice A n c] h fun v h' => St h0 h' (ownA bEnc 1 5 v xs :: l) ∧ Fr h h' [] :=
  (clone_ok (T := 5) (sz := 1) (bytes := 1) c_slices_Clone_byte_byte bEnc_len (by omega) bEnc_plain rfl ha hn hA (by omega) (by omega)).mono fun v h' ⟨ho, hf, _⟩ => ⟨S.ownNew hf ho, hf⟩
theorem ownNilA {enc : UInt8 → List Value} {sz T base : Nat} {h : Heap} {A : Option Addr} {n c : Nat} {xs : List UInt8} (ho : Own enc sz T base h (.slice A n c) xs) : A = none → xs = [] := by
  rintro rfl
  rcases ho with ⟨hv, rfl⟩ | ⟨b, cap, cs, hv, _⟩
  · rfl
  · cases hv
theorem End_ok {h0 h : Heap} {l : List HP} {o : Nat} {bs : List UInt8} {bad : Bool} (S : St h0 h (outA o bs bad :: l)) (hl : bs.length < 1000000) :
    CallsH Try.prog 49 [.pointer (some ⟨o, 0, none⟩)] h fun r h' => ∃ v, r = .tuple #[v, .int .i64 (if bad then 2 else 0)] ∧ St h0 h' (ownA bEnc 1 5 v (if bad then [] else bs) :: outA o bs bad :: l) := by
  (refine enterK c_codec_Out_End (Nat.le_of_ble_eq_true rfl) fun K hK => ?_; (try simp (maxSteps := 1000000) (disch := first | omega | assumption | exact Nat.le_of_ble_eq_true rfl) only [go_sem, ↓mwp_block, simprocAttr, ir_codec_Out_End]))
  obtain ⟨s, S⟩ := outA_open.1 S
  obtain ⟨B, d, rfl⟩ := S.p1.sl
  ((try clear F); have F := S.all; (try simp only [all_cons, all_nil, says_cell, and_true] at F))
  (try simp (maxSteps := 1000000) (disch := first | omega | assumption | exact Nat.le_of_ble_eq_true rfl) only [go_sem, ↓mwp_block, simprocAttr, F])
  cases bad
  · (try simp (maxSteps := 1000000) (disch := first | omega | assumption | exact Nat.le_of_ble_eq_true rfl) only [go_sem, ↓mwp_block, simprocAttr, F])
    refine call_intro (CloneB_ok S (S.p1.arr bEnc_len) rfl (ownNilA S.p1.own) (by omega)) ?_
    rintro v h ⟨S, _⟩
    (try simp (maxSteps := 1000000) (disch := first | omega | assumption | exact Nat.le_of_ble_eq_true rfl) only [go_sem, ↓mwp_block, simprocAttr])
    refine hK _ _ ⟨v, rfl, ?_⟩
    exact (outA_open.2 ⟨_, S.p2.p2⟩).swap
  · (try simp (maxSteps := 1000000) (disch := first | omega | assumption | exact Nat.le_of_ble_eq_true rfl) only [go_sem, ↓mwp_block, simprocAttr, F])
    exact hK _ _ ⟨_, rfl, (outA_open.2 ⟨_, S⟩).nilS⟩
end Go.Proofs.Ytblalmgahfbalaa.MX

/- Policies: which are right, by the program and by the document. -/
namespace Go.Proofs.Ytblalmgahfbalaa.MX
open Go Go.Proofs
set_option linter.unusedSimpArgs false
set_option linter.unusedVariables false

/-- A policy's cells. -/
structure Pol where
  w : Int
  fin : Bool
  exc : Bool
  cre : Bool
  f0 : Int
  f1 : Int
  f2 : Int
  f3 : Int
  s0 : Int
  t0 : Int
  s1 : Int
  t1 : Int
  s2 : Int
  t2 : Int
  s3 : Int
  t3 : Int
  deriving DecidableEq, Inhabited
def Pol.enc (p : Pol) : List Value := [.int .i64 p.w, .bool p.fin, .bool p.exc, .bool p.cre, .int .i64 p.f0, .int .i64 p.f1, .int .i64 p.f2, .int .i64 p.f3, .int .i64 p.s0, .int .i64 p.t0, .int .i64 p.s1, .int .i64 p.t1, .int .i64 p.s2, .int .i64 p.t2, .int .i64 p.s3, .int .i64 p.t3]
def Pol.zero : Pol := ⟨0, false, false, false, 0, 0, 0, 0, 0, 0, 0, 0, 0, 0, 0, 0⟩
theorem Pol.enc_len (p : Pol) : p.enc.length = 16 := rfl
theorem Pol.enc_plain (p : Pol) : plainCells p.enc = true := rfl
def okPts (n : Int) : Prop := 0 ≤ n ∧ n ≤ 10000
def okGrade (s t : Int) : Prop := okPts s ∧ (t = 0 ∧ s = 0 ∨ 3 ≤ t ∧ t ≤ 5)
def Pol.right (p : Pol) : Prop := (okPts p.f0 ∧ okPts p.f1 ∧ okPts p.f2 ∧ okPts p.f3) ∧ (okGrade p.s0 p.t0 ∧ okGrade p.s1 p.t1 ∧ okGrade p.s2 p.t2 ∧ okGrade p.s3 p.t3) ∧ 0 ≤ p.w ∧ p.w ≤ 1000

theorem cond_decn {p : Prop} {X Y : Prop} {s : Tag X} {t : Tag Y} (hx : ¬ p → X) (hy : p → Y) : condT (.bool (!dcd p)) X Y s t := by
  by_cases h : p
  · rw [dcd_true h]; simp only [condT, condW, Bool.not_true, Bool.false_eq_true, if_false]; exact hy h
  · rw [dcd_false h]; simp only [condT, condW, Bool.not_false, if_true]; exact hx h

theorem points_ok (n : Int) (h : Heap) : CallsH Try.prog 82 [.int .i64 n] h fun v h' => v = .bool (dcd (okPts n)) ∧ h' = h := by
  by_cases hp : okPts n
  · (refine enterK c_table_points (Nat.le_of_ble_eq_true rfl) fun K hK => ?_; (try simp (maxSteps := 1000000) (disch := first | omega | assumption | exact Nat.le_of_ble_eq_true rfl) only [go_sem, ↓mwp_block, simprocAttr, ir_table_points]))
    have := hp.1
    have := hp.2
    (try simp (maxSteps := 1000000) (disch := first | omega | assumption | exact Nat.le_of_ble_eq_true rfl) only [go_sem, ↓mwp_block, simprocAttr])
    exact hK _ _ ⟨by rw [dcd_true hp], rfl⟩
  · by_cases h0 : 0 ≤ n
    · have : ¬ n ≤ 10000 := fun h1 => hp ⟨h0, h1⟩
      (refine enterK c_table_points (Nat.le_of_ble_eq_true rfl) fun K hK => ?_; (try simp (maxSteps := 1000000) (disch := first | omega | assumption | exact Nat.le_of_ble_eq_true rfl) only [go_sem, ↓mwp_block, simprocAttr, ir_table_points]))
      (try simp (maxSteps := 1000000) (disch := first | omega | assumption | exact Nat.le_of_ble_eq_true rfl) only [go_sem, ↓mwp_block, simprocAttr])
      exact hK _ _ ⟨by rw [dcd_false hp], rfl⟩
    · (refine enterK c_table_points (Nat.le_of_ble_eq_true rfl) fun K hK => ?_; (try simp (maxSteps := 1000000) (disch := first | omega | assumption | exact Nat.le_of_ble_eq_true rfl) only [go_sem, ↓mwp_block, simprocAttr, ir_table_points]))
      (try simp (maxSteps := 1000000) (disch := first | omega | assumption | exact Nat.le_of_ble_eq_true rfl) only [go_sem, ↓mwp_block, simprocAttr, h0])
      exact hK _ _ ⟨by rw [dcd_false hp], rfl⟩
theorem refPoints_ok (n : Int) (h : Heap) : CallsH Try.prog 80 [.int .i64 n] h fun v h' => v = .bool (dcd (okPts n)) ∧ h' = h := by
  by_cases hp : okPts n
  · (refine enterK c_recoupref05_points (Nat.le_of_ble_eq_true rfl) fun K hK => ?_; (try simp (maxSteps := 1000000) (disch := first | omega | assumption | exact Nat.le_of_ble_eq_true rfl) only [go_sem, ↓mwp_block, simprocAttr, ir_recoupref05_points]))
    have := hp.1
    have := hp.2
    (try simp (maxSteps := 1000000) (disch := first | omega | assumption | exact Nat.le_of_ble_eq_true rfl) only [go_sem, ↓mwp_block, simprocAttr])
    exact hK _ _ ⟨by rw [dcd_true hp], rfl⟩
  · by_cases h0 : 0 ≤ n
    · have : ¬ n ≤ 10000 := fun h1 => hp ⟨h0, h1⟩
      (refine enterK c_recoupref05_points (Nat.le_of_ble_eq_true rfl) fun K hK => ?_; (try simp (maxSteps := 1000000) (disch := first | omega | assumption | exact Nat.le_of_ble_eq_true rfl) only [go_sem, ↓mwp_block, simprocAttr, ir_recoupref05_points]))
      (try simp (maxSteps := 1000000) (disch := first | omega | assumption | exact Nat.le_of_ble_eq_true rfl) only [go_sem, ↓mwp_block, simprocAttr])
      exact hK _ _ ⟨by rw [dcd_false hp], rfl⟩
    · (refine enterK c_recoupref05_points (Nat.le_of_ble_eq_true rfl) fun K hK => ?_; (try simp (maxSteps := 1000000) (disch := first | omega | assumption | exact Nat.le_of_ble_eq_true rfl) only [go_sem, ↓mwp_block, simprocAttr, ir_recoupref05_points]))
      (try simp (maxSteps := 1000000) (disch := first | omega | assumption | exact Nat.le_of_ble_eq_true rfl) only [go_sem, ↓mwp_block, simprocAttr, h0])
      exact hK _ _ ⟨by rw [dcd_false hp], rfl⟩

theorem grade_ok (s t : Int) (h : Heap) : CallsH Try.prog 83 [.agg (List.toArray [.int .i64 s, .int .i64 t])] h fun v h' => v = .bool (dcd (okGrade s t)) ∧ Fr h h' [] := by
  have S := St.nil h
  (refine enterK c_table_rightGrade (Nat.le_of_ble_eq_true rfl) fun K hK => ?_; (try simp (maxSteps := 1000000) (disch := first | omega | assumption | exact Nat.le_of_ble_eq_true rfl) only [go_sem, ↓mwp_block, simprocAttr, ir_table_rightGrade]))
  (refine st_alloc S ?_; clear S; intro b h S; (try simp only [splice_cons, splice_nil, List.set_cons_zero, List.set_cons_succ, Nat.zero_add, Nat.reduceAdd, List.cons_append, List.nil_append] at S); ((try clear F); have F := S.all; (try simp only [all_cons, all_nil, says_cell, and_true] at F)))
  (try simp (maxSteps := 1000000) (disch := first | omega | assumption | exact Nat.le_of_ble_eq_true rfl) only [go_sem, ↓mwp_block, simprocAttr, F])
  refine call_intro (points_ok s _) ?_
  rintro _ _ ⟨rfl, rfl⟩
  by_cases hs : okPts s
  · by_cases h1 : t = 0
    · by_cases h2 : s = 0
      · (try simp (maxSteps := 1000000) (disch := first | omega | assumption | exact Nat.le_of_ble_eq_true rfl) only [go_sem, ↓mwp_block, simprocAttr, F])
        exact hK _ _ ⟨by rw [dcd_true]; exact ⟨hs, .inl ⟨h1, h2⟩⟩, S.fr⟩
      · (try simp (maxSteps := 1000000) (disch := first | omega | assumption | exact Nat.le_of_ble_eq_true rfl) only [go_sem, ↓mwp_block, simprocAttr, F])
        exact hK _ _ ⟨by rw [dcd_false]; rintro ⟨_, h | h⟩ <;> omega, S.fr⟩
    · by_cases h3 : 3 ≤ t
      · by_cases h5 : t ≤ 5
        · (try simp (maxSteps := 1000000) (disch := first | omega | assumption | exact Nat.le_of_ble_eq_true rfl) only [go_sem, ↓mwp_block, simprocAttr, F])
          exact hK _ _ ⟨by rw [dcd_true ⟨hs, .inr ⟨h3, h5⟩⟩], S.fr⟩
        · (try simp (maxSteps := 1000000) (disch := first | omega | assumption | exact Nat.le_of_ble_eq_true rfl) only [go_sem, ↓mwp_block, simprocAttr, F])
          exact hK _ _ ⟨by rw [dcd_false]; rintro ⟨_, h | h⟩ <;> omega, S.fr⟩
      · (try simp (maxSteps := 1000000) (disch := first | omega | assumption | exact Nat.le_of_ble_eq_true rfl) only [go_sem, ↓mwp_block, simprocAttr, F])
        exact hK _ _ ⟨by rw [dcd_false]; rintro ⟨_, h | h⟩ <;> omega, S.fr⟩
  · (try simp (maxSteps := 1000000) (disch := first | omega | assumption | exact Nat.le_of_ble_eq_true rfl) only [go_sem, ↓mwp_block, simprocAttr, F])
    exact hK _ _ ⟨by rw [dcd_false]; exact fun h => hs h.1, S.fr⟩

set_option maxHeartbeats 4000000 in
theorem right_ok (p : Pol) (h : Heap) : CallsH Try.prog 58 [.agg p.enc.toArray] h fun v h' => v = .bool (dcd p.right) ∧ Fr h h' [] := by
  have S := St.nil h
  (refine enterK c_table_right (Nat.le_of_ble_eq_true rfl) fun K hK => ?_; (try simp (maxSteps := 1000000) (disch := first | omega | assumption | exact Nat.le_of_ble_eq_true rfl) only [go_sem, ↓mwp_block, simprocAttr, ir_table_right]))
  (refine st_alloc S ?_; clear S; intro b h S; (try simp only [splice_cons, splice_nil, List.set_cons_zero, List.set_cons_succ, Nat.zero_add, Nat.reduceAdd, List.cons_append, List.nil_append] at S); ((try clear F); have F := S.all; (try simp only [all_cons, all_nil, says_cell, and_true] at F)))
  (try simp (maxSteps := 1000000) (disch := first | omega | assumption | exact Nat.le_of_ble_eq_true rfl) only [go_sem, ↓mwp_block, simprocAttr, F, Pol.enc])
  refine loop_unroll 5 ?_
  (try simp (maxSteps := 1000000) (disch := first | omega | assumption | exact Nat.le_of_ble_eq_true rfl) only [go_sem, ↓mwp_block, simprocAttr])
  iterate 4
    refine call_intro (points_ok _ _) ?_
    rintro _ _ ⟨rfl, rfl⟩
    (try simp (maxSteps := 1000000) (disch := first | omega | assumption | exact Nat.le_of_ble_eq_true rfl) only [go_sem, ↓mwp_block, simprocAttr])
    refine cond_decn (fun hn => by (try simp (maxSteps := 1000000) (disch := first | omega | assumption | exact Nat.le_of_ble_eq_true rfl) only [go_sem, ↓mwp_block, simprocAttr]); exact hK _ _ ⟨by rw [dcd_false]; exact fun h => hn (by first | exact h.1.1 | exact h.1.2.1 | exact h.1.2.2.1 | exact h.1.2.2.2), S.fr⟩) (fun hp => ?_)
    (try simp (maxSteps := 1000000) (disch := first | omega | assumption | exact Nat.le_of_ble_eq_true rfl) only [go_sem, ↓mwp_block, simprocAttr])
  (try simp (maxSteps := 1000000) (disch := first | omega | assumption | exact Nat.le_of_ble_eq_true rfl) only [go_sem, ↓mwp_block, simprocAttr, F, Pol.enc])
  refine loop_unroll 5 ?_
  (try simp (maxSteps := 1000000) (disch := first | omega | assumption | exact Nat.le_of_ble_eq_true rfl) only [go_sem, ↓mwp_block, simprocAttr])
  iterate 4
    (refine st_alloc S ?_; clear S; intro g h S; (try simp only [splice_cons, splice_nil, List.set_cons_zero, List.set_cons_succ, Nat.zero_add, Nat.reduceAdd, List.cons_append, List.nil_append] at S); ((try clear F); have F := S.all; (try simp only [all_cons, all_nil, says_cell, and_true] at F)))
    (try simp (maxSteps := 1000000) (disch := first | omega | assumption | exact Nat.le_of_ble_eq_true rfl) only [go_sem, ↓mwp_block, simprocAttr, F])
    (refine st_store (by first | exact S | exact S.p1 | exact S.p2 | exact S.p3 | exact S.p4 | exact S.p5 | exact S.p6 | exact S.p7 | exact S.p8 | exact S.p9 | exact S.p10 | exact S.p11) (by rfl) (by rfl) (Nat.le_of_ble_eq_true rfl) ?_; clear S; intro h S; (try simp only [splice_cons, splice_nil, List.set_cons_zero, List.set_cons_succ, Nat.zero_add, Nat.reduceAdd, List.cons_append, List.nil_append] at S); ((try clear F); have F := S.all; (try simp only [all_cons, all_nil, says_cell, and_true] at F)))
    (try simp (maxSteps := 1000000) (disch := first | omega | assumption | exact Nat.le_of_ble_eq_true rfl) only [go_sem, ↓mwp_block, simprocAttr, F])
    refine call_intro (grade_ok _ _ _) ?_
    rintro _ h ⟨rfl, hf⟩
    have S := S.frame hf
    ((try clear F); have F := S.all; (try simp only [all_cons, all_nil, says_cell, and_true] at F))
    (try simp (maxSteps := 1000000) (disch := first | omega | assumption | exact Nat.le_of_ble_eq_true rfl) only [go_sem, ↓mwp_block, simprocAttr])
    refine cond_decn (fun hn => by (try simp (maxSteps := 1000000) (disch := first | omega | assumption | exact Nat.le_of_ble_eq_true rfl) only [go_sem, ↓mwp_block, simprocAttr]); exact hK _ _ ⟨by rw [dcd_false]; exact fun h => hn (by first | exact h.2.1.1 | exact h.2.1.2.1 | exact h.2.1.2.2.1 | exact h.2.1.2.2.2), S.fr⟩) (fun hp => ?_)
    (try simp (maxSteps := 1000000) (disch := first | omega | assumption | exact Nat.le_of_ble_eq_true rfl) only [go_sem, ↓mwp_block, simprocAttr])
  (try simp (maxSteps := 1000000) (disch := first | omega | assumption | exact Nat.le_of_ble_eq_true rfl) only [go_sem, ↓mwp_block, simprocAttr, F, Pol.enc])
  by_cases h0 : 0 ≤ p.w
  · by_cases h1 : p.w ≤ 1000
    · (try simp (maxSteps := 1000000) (disch := first | omega | assumption | exact Nat.le_of_ble_eq_true rfl) only [go_sem, ↓mwp_block, simprocAttr, F, Pol.enc, h0, h1])
      refine hK _ _ ⟨?_, S.fr⟩
      rw [dcd_true]
      exact ⟨⟨by assumption, by assumption, by assumption, by assumption⟩, ⟨by assumption, by assumption, by assumption, by assumption⟩, h0, h1⟩
    · (try simp (maxSteps := 1000000) (disch := first | omega | assumption | exact Nat.le_of_ble_eq_true rfl) only [go_sem, ↓mwp_block, simprocAttr, F, Pol.enc, h0, h1])
      exact hK _ _ ⟨by rw [dcd_false]; exact fun h => h1 h.2.2.2, S.fr⟩
  · (try simp (maxSteps := 1000000) (disch := first | omega | assumption | exact Nat.le_of_ble_eq_true rfl) only [go_sem, ↓mwp_block, simprocAttr, F, Pol.enc, h0])
    exact hK _ _ ⟨by rw [dcd_false]; exact fun h => h0 h.2.2.1, S.fr⟩

theorem rightAsk {h : Heap} : Asks Try.prog Pol.enc h [] (.func (.func 57) #[] (List.toArray [])) fun p => !dcd p.right := by
  refine ⟨_, _, rfl, ok_table_Right_1, fun x h hf => ?_⟩
  have S := St.nil h
  (refine enterK c_table_Right_1 (Nat.le_of_ble_eq_true rfl) fun K hK => ?_; (try simp (maxSteps := 1000000) (disch := first | omega | assumption | exact Nat.le_of_ble_eq_true rfl) only [go_sem, ↓mwp_block, simprocAttr, ir_table_Right_1]))
  (refine st_alloc S ?_; clear S; intro b h S; (try simp only [splice_cons, splice_nil, List.set_cons_zero, List.set_cons_succ, Nat.zero_add, Nat.reduceAdd, List.cons_append, List.nil_append] at S); ((try clear F); have F := S.all; (try simp only [all_cons, all_nil, says_cell, and_true] at F)))
  (try simp (maxSteps := 1000000) (disch := first | omega | assumption | exact Nat.le_of_ble_eq_true rfl) only [go_sem, ↓mwp_block, simprocAttr, F, Pol.enc])
  refine call_intro (right_ok x _) ?_
  rintro _ h ⟨rfl, hf⟩
  (try simp (maxSteps := 1000000) (disch := first | omega | assumption | exact Nat.le_of_ble_eq_true rfl) only [go_sem, ↓mwp_block, simprocAttr])
  exact hK _ _ ⟨rfl, (S.frame hf).fr⟩

def RightT (l : List Pol) : Prop := l.length ≤ 16 ∧ ∀ p ∈ l, p.right
theorem ContainsP_ok {h : Heap} {A : Option Addr} {n c : Nat} {xs : List Pol} (ha : Arr Pol.enc 16 h A xs) (hn : n = xs.length) (hl : xs.length < 1000000) :
    CallsH Try.prog 56 [.slice A n c, .func (.func 57) #[] (List.toArray [])] h fun v h' => v = .bool (dcd (∃ p ∈ xs, ¬ p.right)) ∧ Fr h h' [] := by
  subst hn
  (refine enterK c_slices_ContainsFunc_api_Policy_api_Policy (Nat.le_of_ble_eq_true rfl) fun K hK => ?_; (try simp (maxSteps := 1000000) (disch := first | omega | assumption | exact Nat.le_of_ble_eq_true rfl) only [go_sem, ↓mwp_block, simprocAttr, ir_slices_ContainsFunc_api_Policy_api_Policy]))
  refine call_intro (indexFunc_ok (sz := 16) (p := fun m : Pol => !dcd m.right) c_slices_IndexFunc_api_Policy_api_Policy ha rfl (by omega) rightAsk) ?_
  rintro _ h1 ⟨rfl, hf⟩
  rcases idxOf_spec (fun m : Pol => !dcd m.right) xs 0 with ⟨hx, hall⟩ | ⟨i, hx, hil, hbef, hat⟩
  · have hx : idxOf (fun m : Pol => !dcd m.right) xs 0 = -1 := hx
    (try simp (maxSteps := 1000000) (disch := first | omega | assumption | exact Nat.le_of_ble_eq_true rfl) only [go_sem, ↓mwp_block, simprocAttr, hx])
    refine hK _ _ ⟨?_, hf⟩
    rw [dcd_false]
    rintro ⟨p, hp, hn⟩
    have := hall p hp
    rw [dcd_false hn] at this
    cases this
  · have hx : idxOf (fun m : Pol => !dcd m.right) xs 0 = (i : Int) := by simpa using hx
    (try simp (maxSteps := 1000000) (disch := first | omega | assumption | exact Nat.le_of_ble_eq_true rfl) only [go_sem, ↓mwp_block, simprocAttr, hx])
    refine hK _ _ ⟨?_, hf⟩
    have := hat xs[i] (List.getElem?_eq_getElem hil)
    rw [dcd_true]
    refine ⟨xs[i], List.getElem_mem hil, fun hr => ?_⟩
    rw [dcd_true hr] at this
    cases this

theorem Right_ok {h : Heap} {A : Option Addr} {n c : Nat} {xs : List Pol} (ha : Arr Pol.enc 16 h A xs) (hn : n = xs.length) (hl : xs.length < 1000000) :
    CallsH Try.prog 24 [.slice A n c] h fun v h' => v = .bool (dcd (RightT xs)) ∧ Fr h h' [] := by
  subst hn
  (refine enterK c_table_Right (Nat.le_of_ble_eq_true rfl) fun K hK => ?_; (try simp (maxSteps := 1000000) (disch := first | omega | assumption | exact Nat.le_of_ble_eq_true rfl) only [go_sem, ↓mwp_block, simprocAttr, ir_table_Right]))
  by_cases h16 : xs.length ≤ 16
  · (try simp (maxSteps := 1000000) (disch := first | omega | assumption | exact Nat.le_of_ble_eq_true rfl) only [go_sem, ↓mwp_block, simprocAttr, h16])
    refine call_intro (ContainsP_ok ha rfl hl) ?_
    rintro _ h1 ⟨rfl, hf⟩
    (try simp (maxSteps := 1000000) (disch := first | omega | assumption | exact Nat.le_of_ble_eq_true rfl) only [go_sem, ↓mwp_block, simprocAttr])
    refine hK _ _ ⟨?_, hf⟩
    by_cases hr : RightT xs
    · rw [dcd_true hr, dcd_false]
      · rfl
      · rintro ⟨p, hp, hn⟩; exact hn (hr.2 p hp)
    · rw [dcd_false hr, dcd_true]
      · rfl
      · apply Classical.byContradiction
        intro hn
        exact hr ⟨h16, fun p hp => Classical.byContradiction fun h => hn ⟨p, hp, h⟩⟩
  · (try simp (maxSteps := 1000000) (disch := first | omega | assumption | exact Nat.le_of_ble_eq_true rfl) only [go_sem, ↓mwp_block, simprocAttr, h16])
    exact hK _ _ ⟨by rw [dcd_false]; exact fun h => h16 h.1, Fr.refl _ _⟩
end Go.Proofs.Ytblalmgahfbalaa.MX
