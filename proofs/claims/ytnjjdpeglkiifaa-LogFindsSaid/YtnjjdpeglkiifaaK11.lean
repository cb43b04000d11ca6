/- Texts in one file: Cd1, By2, Mk1, Fr1, MXR. -/
import Derived.Test.YtnjjdpeglkiifaaK10
import Derived.Test.YtnjjdpeglkiifaaIR
import Derived.Test.YtnjjdpeglkiifaaK07

/- What is written: numbers and bytes put behind each other (codec.Out). -/
namespace Go.Proofs.Ytnjjdpeglkiifaa.MX
open Go Go.Proofs
set_option linter.unusedSimpArgs false
set_option linter.unusedVariables false

def outA (o : Nat) (bs : List UInt8) (bad : Bool) : HP := exA fun s => starsA [cellA o [s, .bool bad] 154, ownA bEnc 1 5 s bs]
theorem outA_open {h0 h : Heap} {l : List HP} {o : Nat} {bs : List UInt8} {bad : Bool} : St h0 h (outA o bs bad :: l) ↔ ∃ s, St h0 h (cellA o [s, .bool bad] 154 :: ownA bEnc 1 5 s bs :: l) :=
  St.ex.trans (exists_congr fun _ => St.stars)

theorem number_ok (v : Int) (n : Nat) {h0 h : Heap} {l : List HP} {o : Nat} {bs : List UInt8} {bad : Bool} (S : St h0 h (outA o bs bad :: l)) (hv : 0 ≤ v ∧ v < 18446744073709551616) (hn : n ≤ 8) (hl : bs.length < 1000000) :
    CallsH Try.prog 129 [.pointer (some ⟨o, 0, none⟩), .int .u64 v, .int .i64 n] h fun r h' => St h0 h' (outA o (bs ++ le n v) bad :: l) := by
  (refine enterK c_codec_Out_number (Nat.le_of_ble_eq_true rfl) fun K hK => ?_; (try simp (maxSteps := 1000000) (disch := first | omega | assumption | exact Nat.le_of_ble_eq_true rfl) only [go_sem, ↓mwp_block, simprocAttr, ir_codec_Out_number]))
  refine loop_intro (fun ρ h' => ρ 0 = .pointer (some ⟨o, 0, none⟩) ∧ ρ 6 = .int .i64 n ∧ ∃ i : Nat, ρ 7 = .int .i64 i ∧ i ≤ n ∧ ρ 1 = .int .u64 (v / 256 ^ i) ∧ St h0 h' (outA o (bs ++ le i v) bad :: l)) (fun ρ _ => n - (iv (ρ 7)).toNat) ?_ ?_
  · (try simp (maxSteps := 1000000) (disch := first | omega | assumption | exact Nat.le_of_ble_eq_true rfl) only [go_sem, ↓mwp_block, simprocAttr])
    refine ⟨0, rfl, Nat.zero_le _, ?_, ?_⟩
    · simp
    · simpa [le] using S
  · clear S
    rintro ρ h J hJ ⟨e0, e6, i, e7, hi, e1, S⟩
    obtain ⟨s, S⟩ := outA_open.1 S
    obtain ⟨A, c, rfl⟩ := S.p1.sl
    ((try clear F); have F := S.all; (try simp only [all_cons, all_nil, says_cell, and_true] at F))
    (try simp (maxSteps := 1000000) (disch := first | omega | assumption | exact Nat.le_of_ble_eq_true rfl) only [go_sem, ↓mwp_block, simprocAttr, e7, e6])
    refine cond_dec (fun hg => ?_) (fun hg => ?_)
    · have hp : (0 : Int) < 256 ^ i := Int.pow_pos (by decide)
      have h1 : 0 ≤ v / 256 ^ i := Int.ediv_nonneg hv.1 (Int.le_of_lt hp)
      have h2 : v / 256 ^ i ≤ v := Int.ediv_le_self _ hv.1
      (try simp (maxSteps := 1000000) (disch := first | omega | assumption | exact Nat.le_of_ble_eq_true rfl) only [go_sem, ↓mwp_block, simprocAttr, e0, e1, e7, F, wrap_u8B])
      (refine st_alloc S ?_; clear S; intro b h S; (try simp only [splice_cons, splice_nil, List.set_cons_zero, List.set_cons_succ, Nat.zero_add, Nat.reduceAdd, List.cons_append, List.nil_append] at S); ((try clear F); have F := S.all; (try simp only [all_cons, all_nil, says_cell, and_true] at F)))
      (try simp (maxSteps := 1000000) (disch := first | omega | assumption | exact Nat.le_of_ble_eq_true rfl) only [go_sem, ↓mwp_block, simprocAttr, e0, e1, e7, F])
      refine st_append1 (bytes := 1) (x := B8 (v / 256 ^ i)) bEnc_len (by omega) bEnc_plain rfl rfl (S.p2.p1) (by simp [le_length]; omega) (by simp [le_length]; omega) ?_
      clear S F
      intro v' h S
      obtain ⟨A', c', rfl⟩ := S.sl
      ((try clear F); have F := S.all; (try simp only [all_cons, all_nil, says_cell, and_true] at F))
      (try simp (maxSteps := 1000000) (disch := first | omega | assumption | exact Nat.le_of_ble_eq_true rfl) only [go_sem, ↓mwp_block, simprocAttr, e0, e1, e7, F])
      (refine st_store (by first | exact S | exact S.p1 | exact S.p2 | exact S.p3 | exact S.p4 | exact S.p5 | exact S.p6 | exact S.p7 | exact S.p8 | exact S.p9 | exact S.p10 | exact S.p11) (by rfl) (by rfl) (Nat.le_of_ble_eq_true rfl) ?_; clear S; intro h S; (try simp only [splice_cons, splice_nil, List.set_cons_zero, List.set_cons_succ, Nat.zero_add, Nat.reduceAdd, List.cons_append, List.nil_append] at S); ((try clear F); have F := S.all; (try simp only [all_cons, all_nil, says_cell, and_true] at F)))
      have e : v / 256 ^ i / 256 = v / 256 ^ (i + 1) := by rw [Int.pow_succ, Int.ediv_ediv_of_nonneg (Int.le_of_lt hp)]
      (try simp (maxSteps := 1000000) (disch := first | omega | assumption | exact Nat.le_of_ble_eq_true rfl) only [go_sem, ↓mwp_block, simprocAttr, e0, e1, e7, F])
      refine hJ _ _ ?_ ?_
      · (try simp (maxSteps := 1000000) (disch := first | omega | assumption | exact Nat.le_of_ble_eq_true rfl) only [go_sem, ↓mwp_block, simprocAttr, e0, e6, e7])
        refine ⟨i + 1, rfl, by omega, ?_, ?_⟩
        · rw [← e, ← shr8]
        · have S := outA_open.2 ⟨_, S⟩
          rwa [List.append_assoc, ← le_succ] at S
      · (try simp (maxSteps := 1000000) (disch := first | omega | assumption | exact Nat.le_of_ble_eq_true rfl) only [go_sem, ↓mwp_block, simprocAttr, e7])
        omega
    · (try simp (maxSteps := 1000000) (disch := first | omega | assumption | exact Nat.le_of_ble_eq_true rfl) only [go_sem, ↓mwp_block, simprocAttr])
      obtain rfl : i = n := by omega
      exact hK _ _ (outA_open.2 ⟨_, S⟩)

/-- What is written once a number is put in n bytes. -/
def putBad (n : Nat) (v : Int) (bad : Bool) : Bool := bad || decide (¬ (0 ≤ v ∧ v < 256 ^ n))
def putBs (n : Nat) (v : Int) (bs : List UInt8) (bad : Bool) : List UInt8 := if putBad n v bad then bs else bs ++ le n v
theorem small_ok (v : Int) (n : Nat) {h0 h : Heap} {l : List HP} {o : Nat} {bs : List UInt8} {bad : Bool} (S : St h0 h (outA o bs bad :: l)) (hv : I64 v) (hn : 1 ≤ n ∧ n ≤ 4) (hl : bs.length < 1000000) :
    CallsH Try.prog 122 [.pointer (some ⟨o, 0, none⟩), .int .i64 v, .int .i64 n] h fun r h' => St h0 h' (outA o (putBs n v bs bad) (putBad n v bad) :: l) := by
  obtain ⟨hv1, hv2⟩ := hv
  have hw : IntKind.i64.wrap (8 * n) = 8 * n := wrap_i64 (by omega) (by omega)
  have hs : v.fdiv (2 ^ (min (8 * (n : Int)).toNat 64)) = v / 256 ^ n := by
    rw [← shr_256, show min (8 * (n : Int)).toNat 64 = 8 * n by omega]
  have h256 : (256 : Int) ^ n ≤ 256 ^ 4 := by
    obtain rfl | rfl | rfl | rfl : n = 1 ∨ n = 2 ∨ n = 3 ∨ n = 4 := by omega
    all_goals decide
  have hz := fdiv_zero_iff n v
  (refine enterK c_codec_Out_small (Nat.le_of_ble_eq_true rfl) fun K hK => ?_; (try simp (maxSteps := 1000000) (disch := first | omega | assumption | exact Nat.le_of_ble_eq_true rfl) only [go_sem, ↓mwp_block, simprocAttr, ir_codec_Out_small]))
  obtain ⟨s, S⟩ := outA_open.1 S
  ((try clear F); have F := S.all; (try simp only [all_cons, all_nil, says_cell, and_true] at F))
  by_cases hr : 0 ≤ v ∧ v < 256 ^ n
  · have hq := hz.2 hr
    have hu : IntKind.u64.wrap v = v := wrap_u64 hr.1 (by omega)
    have hpb : putBad n v bad = bad := by simp [putBad, hr]
    (try simp (maxSteps := 1000000) (disch := first | omega | assumption | exact Nat.le_of_ble_eq_true rfl) only [go_sem, ↓mwp_block, simprocAttr, hw, hs, hq, F, hu])
    cases bad
    · (try simp (maxSteps := 1000000) (disch := first | omega | assumption | exact Nat.le_of_ble_eq_true rfl) only [go_sem, ↓mwp_block, simprocAttr, F, hu])
      refine call_intro (number_ok v n (outA_open.2 ⟨_, S⟩) (by omega) (by omega) hl) ?_
      intro r h' S
      (try simp (maxSteps := 1000000) (disch := first | omega | assumption | exact Nat.le_of_ble_eq_true rfl) only [go_sem, ↓mwp_block, simprocAttr])
      refine hK _ _ ?_
      rw [putBs, hpb]
      exact S
    · (try simp (maxSteps := 1000000) (disch := first | omega | assumption | exact Nat.le_of_ble_eq_true rfl) only [go_sem, ↓mwp_block, simprocAttr, F])
      refine hK _ _ ?_
      rw [putBs, hpb]
      exact outA_open.2 ⟨_, S⟩
  · have hq : ¬ v / 256 ^ n = 0 := fun h => hr (hz.1 h)
    have hpb : putBad n v bad = true := by simp [putBad, hr]
    by_cases h0' : v < 0
    · (try simp (maxSteps := 1000000) (disch := first | omega | assumption | exact Nat.le_of_ble_eq_true rfl) only [go_sem, ↓mwp_block, simprocAttr, hw, hs, hq, F, h0'])
      (refine st_store (by first | exact S | exact S.p1 | exact S.p2 | exact S.p3 | exact S.p4 | exact S.p5 | exact S.p6 | exact S.p7 | exact S.p8 | exact S.p9 | exact S.p10 | exact S.p11) (by rfl) (by rfl) (Nat.le_of_ble_eq_true rfl) ?_; clear S; intro h S; (try simp only [splice_cons, splice_nil, List.set_cons_zero, List.set_cons_succ, Nat.zero_add, Nat.reduceAdd, List.cons_append, List.nil_append] at S); ((try clear F); have F := S.all; (try simp only [all_cons, all_nil, says_cell, and_true] at F)))
      (try simp (maxSteps := 1000000) (disch := first | omega | assumption | exact Nat.le_of_ble_eq_true rfl) only [go_sem, ↓mwp_block, simprocAttr, F])
      refine hK _ _ ?_
      rw [putBs, hpb]
      exact outA_open.2 ⟨_, S⟩
    · (try simp (maxSteps := 1000000) (disch := first | omega | assumption | exact Nat.le_of_ble_eq_true rfl) only [go_sem, ↓mwp_block, simprocAttr, hw, hs, hq, F, h0'])
      (refine st_store (by first | exact S | exact S.p1 | exact S.p2 | exact S.p3 | exact S.p4 | exact S.p5 | exact S.p6 | exact S.p7 | exact S.p8 | exact S.p9 | exact S.p10 | exact S.p11) (by rfl) (by rfl) (Nat.le_of_ble_eq_true rfl) ?_; clear S; intro h S; (try simp only [splice_cons, splice_nil, List.set_cons_zero, List.set_cons_succ, Nat.zero_add, Nat.reduceAdd, List.cons_append, List.nil_append] at S); ((try clear F); have F := S.all; (try simp only [all_cons, all_nil, says_cell, and_true] at F)))
      (try simp (maxSteps := 1000000) (disch := first | omega | assumption | exact Nat.le_of_ble_eq_true rfl) only [go_sem, ↓mwp_block, simprocAttr, F])
      refine hK _ _ ?_
      rw [putBs, hpb]
      exact outA_open.2 ⟨_, S⟩
theorem U8_ok (v : Int) {h0 h : Heap} {l : List HP} {o : Nat} {bs : List UInt8} {bad : Bool} (S : St h0 h (outA o bs bad :: l)) (hv : I64 v) (hl : bs.length < 1000000) :
    CallsH Try.prog 104 [.pointer (some ⟨o, 0, none⟩), .int .i64 v] h fun r h' => St h0 h' (outA o (putBs 1 v bs bad) (putBad 1 v bad) :: l) := by
  (refine enterK c_codec_Out_U8 (Nat.le_of_ble_eq_true rfl) fun K hK => ?_; (try simp (maxSteps := 1000000) (disch := first | omega | assumption | exact Nat.le_of_ble_eq_true rfl) only [go_sem, ↓mwp_block, simprocAttr, ir_codec_Out_U8]))
  refine call_intro (small_ok v 1 S hv (by omega) hl) fun r h' S => ?_
  (try simp (maxSteps := 1000000) (disch := first | omega | assumption | exact Nat.le_of_ble_eq_true rfl) only [go_sem, ↓mwp_block, simprocAttr])
  exact hK _ _ S
theorem U16_ok (v : Int) {h0 h : Heap} {l : List HP} {o : Nat} {bs : List UInt8} {bad : Bool} (S : St h0 h (outA o bs bad :: l)) (hv : I64 v) (hl : bs.length < 1000000) :
    CallsH Try.prog 105 [.pointer (some ⟨o, 0, none⟩), .int .i64 v] h fun r h' => St h0 h' (outA o (putBs 2 v bs bad) (putBad 2 v bad) :: l) := by
  (refine enterK c_codec_Out_U16 (Nat.le_of_ble_eq_true rfl) fun K hK => ?_; (try simp (maxSteps := 1000000) (disch := first | omega | assumption | exact Nat.le_of_ble_eq_true rfl) only [go_sem, ↓mwp_block, simprocAttr, ir_codec_Out_U16]))
  refine call_intro (small_ok v 2 S hv (by omega) hl) fun r h' S => ?_
  (try simp (maxSteps := 1000000) (disch := first | omega | assumption | exact Nat.le_of_ble_eq_true rfl) only [go_sem, ↓mwp_block, simprocAttr])
  exact hK _ _ S
theorem U32_ok (v : Int) {h0 h : Heap} {l : List HP} {o : Nat} {bs : List UInt8} {bad : Bool} (S : St h0 h (outA o bs bad :: l)) (hv : I64 v) (hl : bs.length < 1000000) :
    CallsH Try.prog 106 [.pointer (some ⟨o, 0, none⟩), .int .i64 v] h fun r h' => St h0 h' (outA o (putBs 4 v bs bad) (putBad 4 v bad) :: l) := by
  (refine enterK c_codec_Out_U32 (Nat.le_of_ble_eq_true rfl) fun K hK => ?_; (try simp (maxSteps := 1000000) (disch := first | omega | assumption | exact Nat.le_of_ble_eq_true rfl) only [go_sem, ↓mwp_block, simprocAttr, ir_codec_Out_U32]))
  refine call_intro (small_ok v 4 S hv (by omega) hl) fun r h' S => ?_
  (try simp (maxSteps := 1000000) (disch := first | omega | assumption | exact Nat.le_of_ble_eq_true rfl) only [go_sem, ↓mwp_block, simprocAttr])
  exact hK _ _ S
theorem Plain_ok {A : Option Addr} {c : Nat} (ys : List UInt8) {h0 h : Heap} {l : List HP} {o : Nat} {bs : List UInt8} {bad : Bool} (S : St h0 h (outA o bs bad :: l)) (ha : Arr bEnc 1 h A ys) (hl : bs.length + ys.length < 1000000) :
    CallsH Try.prog 108 [.pointer (some ⟨o, 0, none⟩), .slice A ys.length c] h fun r h' => St h0 h' (outA o (if bad then bs else bs ++ ys) bad :: l) := by
  (refine enterK c_codec_Out_Plain (Nat.le_of_ble_eq_true rfl) fun K hK => ?_; (try simp (maxSteps := 1000000) (disch := first | omega | assumption | exact Nat.le_of_ble_eq_true rfl) only [go_sem, ↓mwp_block, simprocAttr, ir_codec_Out_Plain]))
  obtain ⟨s, S⟩ := outA_open.1 S
  obtain ⟨B, d, rfl⟩ := S.p1.sl
  ((try clear F); have F := S.all; (try simp only [all_cons, all_nil, says_cell, and_true] at F))
  (try simp (maxSteps := 1000000) (disch := first | omega | assumption | exact Nat.le_of_ble_eq_true rfl) only [go_sem, ↓mwp_block, simprocAttr, F])
  cases bad
  · (try simp (maxSteps := 1000000) (disch := first | omega | assumption | exact Nat.le_of_ble_eq_true rfl) only [go_sem, ↓mwp_block, simprocAttr, F])
    refine st_append (bytes := 1) (ys := ys) bEnc_len (by omega) bEnc_plain rfl S.p1 rfl (src_arr bEnc_len ha rfl) (by omega) (by omega) ?_
    clear S F
    intro v' h S
    obtain ⟨A', c', rfl⟩ := S.sl
    ((try clear F); have F := S.all; (try simp only [all_cons, all_nil, says_cell, and_true] at F))
    (try simp (maxSteps := 1000000) (disch := first | omega | assumption | exact Nat.le_of_ble_eq_true rfl) only [go_sem, ↓mwp_block, simprocAttr, F])
    (refine st_store (by first | exact S | exact S.p1 | exact S.p2 | exact S.p3 | exact S.p4 | exact S.p5 | exact S.p6 | exact S.p7 | exact S.p8 | exact S.p9 | exact S.p10 | exact S.p11) (by rfl) (by rfl) (Nat.le_of_ble_eq_true rfl) ?_; clear S; intro h S; (try simp only [splice_cons, splice_nil, List.set_cons_zero, List.set_cons_succ, Nat.zero_add, Nat.reduceAdd, List.cons_append, List.nil_append] at S); ((try clear F); have F := S.all; (try simp only [all_cons, all_nil, says_cell, and_true] at F)))
    (try simp (maxSteps := 1000000) (disch := first | omega | assumption | exact Nat.le_of_ble_eq_true rfl) only [go_sem, ↓mwp_block, simprocAttr])
    exact hK _ _ (outA_open.2 ⟨_, S⟩)
  · (try simp (maxSteps := 1000000) (disch := first | omega | assumption | exact Nat.le_of_ble_eq_true rfl) only [go_sem, ↓mwp_block, simprocAttr, F])
    exact hK _ _ (outA_open.2 ⟨_, S⟩)
/-- All that was put, in new memory; or what is wrong. -/
theorem CloneB_ok {A : Option Addr} {n c : Nat} {xs : List UInt8} {h0 h : Heap} {l : List HP} (S : St h0 h l) (ha : Arr bEnc 1 h A xs) (hn : n = xs.length) (hA : A = none → xs = []) (hl : xs.length < 1000000000) :
    CallsH Try.prog 74 [.slice A n c] h fun v h' => St h0 h' (ownA bEnc 1 5 v xs :: l) ∧ Fr h h' [] :=
  (clone_ok (T := 5) (sz := 1) (bytes := 1) c_slices_Clone_byte_byte bEnc_len (by omega) bEnc_plain rfl ha hn hA (by omega) (by omega)).mono fun v h' ⟨ho, hf, _⟩ => ⟨S.ownNew hf ho, hf⟩
theorem ownNilA {enc : UInt8 → List Value} {sz T base : Nat} {h : Heap} {A : Option Addr} {n c : Nat} {xs : List UInt8} (ho : Own enc sz T base h (.slice A n c) xs) : A = none → xs = [] := by
  rintro rfl
  rcases ho with ⟨hv, rfl⟩ | ⟨b, cap, cs, hv, _⟩
  · rfl
  · cases hv
theorem End_ok {h0 h : Heap} {l : List HP} {o : Nat} {bs : List UInt8} {bad : Bool} (S : St h0 h (outA o bs bad :: l)) (hl : bs.length < 1000000) :
    CallsH Try.prog 109 [.pointer (some ⟨o, 0, none⟩)] h fun r h' => ∃ v, r = .tuple #[v, .int .i64 (if bad then 2 else 0)] ∧ St h0 h' (ownA bEnc 1 5 v (if bad then [] else bs) :: outA o bs bad :: l) := by
  (refine enterK c_codec_Out_End (Nat.le_of_ble_eq_true rfl) fun K hK => ?_; (try simp (maxSteps := 1000000) (disch := first | omega | assumption | exact Nat.le_of_ble_eq_true rfl) only [go_sem, ↓mwp_block, simprocAttr, ir_codec_Out_End]))
  obtain ⟨s, S⟩ := outA_open.1 S
  obtain ⟨B, d, rfl⟩ := S.p1.sl
  ((try clear F); have F := S.all; (try simp only [all_cons, all_nil, says_cell, and_true] at F))
  (try simp (maxSteps := 1000000) (disch := first | omega | assumption | exact Nat.le_of_ble_eq_true rfl) only [go_sem, ↓mwp_block, simprocAttr, F])
  cases bad
  · (try simp (maxSteps := 1000000) (disch := first | omega | assumption | exact Nat.le_of_ble_eq_true rfl) only [go_sem, ↓mwp_block, simprocAttr, F])
    refine call_intro (CloneB_ok S (S.p1.arr bEnc_len) rfl (ownNilA S.p1.own) (by omega)) ?_
    rintro v h ⟨S, _⟩
    (try simp (maxSteps := 1000000) (disch := first | omega | assumption | exact Nat.le_of_ble_eq_true rfl) only [go_sem, ↓mwp_block, simprocAttr])
    refine hK _ _ ⟨v, rfl, ?_⟩
    exact (outA_open.2 ⟨_, S.p2.p2⟩).swap
  · (try simp (maxSteps := 1000000) (disch := first | omega | assumption | exact Nat.le_of_ble_eq_true rfl) only [go_sem, ↓mwp_block, simprocAttr, F])
    exact hK _ _ ⟨_, rfl, (outA_open.2 ⟨_, S⟩).nilS⟩
end Go.Proofs.Ytnjjdpeglkiifaa.MX

/- The reference's numbers as bytes; lists of bytes compared. -/
namespace Go.Proofs.Ytnjjdpeglkiifaa.MX
open Go Go.Proofs
set_option linter.unusedSimpArgs false
set_option linter.unusedVariables false

theorem Bytes_ok {A B : Option Addr} {c d : Nat} {xs ys : List UInt8} {h : Heap} (ha : Arr bEnc 1 h A xs) (hb : Arr bEnc 1 h B ys) (hl : xs.length < 1000000000) (hl2 : ys.length < 1000000000) :
    CallsH Try.prog 78 [.slice A xs.length c, .slice B ys.length d] h fun v h' => v = .bool (dcd (xs = ys)) ∧ h' = h := by
  by_cases hlen : xs.length = ys.length
  · (refine enterK c_recouplaw01_Bytes (Nat.le_of_ble_eq_true rfl) fun K hK => ?_; (try simp (maxSteps := 1000000) (disch := first | omega | assumption | exact Nat.le_of_ble_eq_true rfl) only [go_sem, ↓mwp_block, simprocAttr, ir_recouplaw01_Bytes]))
    refine loop_intro (fun ρ h' => h' = h ∧ ρ 0 = .slice A xs.length c ∧ ρ 1 = .slice B ys.length d ∧ ρ 12 = .int .i64 xs.length ∧ ∃ i : Nat, ρ 13 = .int .i64 i ∧ i ≤ xs.length ∧ xs.take i = ys.take i) (fun ρ _ => xs.length - (iv (ρ 13)).toNat) ?_ ?_
    · (try simp (maxSteps := 1000000) (disch := first | omega | assumption | exact Nat.le_of_ble_eq_true rfl) only [go_sem, ↓mwp_block, simprocAttr])
      exact ⟨0, rfl, Nat.zero_le _, rfl⟩
    · rintro ρ _ J hJ ⟨rfl, e0, e1, e12, i, e13, hi, hx⟩
      (try simp (maxSteps := 1000000) (disch := first | omega | assumption | exact Nat.le_of_ble_eq_true rfl) only [go_sem, ↓mwp_block, simprocAttr, e12, e13])
      refine cond_dec (fun hg => ?_) (fun hg => ?_)
      · have hi1 : i < xs.length := by omega
        have hi2 : i < ys.length := by omega
        obtain ⟨b, off, rfl, hr1⟩ := ha.at hi1
        obtain ⟨b', off', rfl, hr2⟩ := hb.at hi2
        have r1 := rd1_part0 hr1 (by omega)
        have r2 := rd1_part0 hr2 (by omega)
        simp only [bEnc, List.getElem?_cons_zero] at r1 r2
        (try simp (maxSteps := 1000000) (disch := first | omega | assumption | exact Nat.le_of_ble_eq_true rfl) only [go_sem, ↓mwp_block, simprocAttr, e0, e1, e13])
        refine draw_eq ?_
        (try simp (maxSteps := 1000000) (disch := first | omega | assumption | exact Nat.le_of_ble_eq_true rfl) only [go_sem, ↓mwp_block, simprocAttr, e0, e1, e13, r1, r2])
        by_cases hxy : xs[i] = ys[i]
        · have : (xs[i].toNat : Int) = ys[i].toNat := by rw [hxy]
          (try simp (maxSteps := 1000000) (disch := first | omega | assumption | exact Nat.le_of_ble_eq_true rfl) only [go_sem, ↓mwp_block, simprocAttr, e13])
          refine hJ _ _ ?_ ?_
          · (try simp (maxSteps := 1000000) (disch := first | omega | assumption | exact Nat.le_of_ble_eq_true rfl) only [go_sem, ↓mwp_block, simprocAttr, e0, e1, e12, e13])
            refine ⟨i + 1, rfl, by omega, ?_⟩
            rw [List.take_succ_eq_append_getElem hi1, List.take_succ_eq_append_getElem hi2, hx, hxy]
          · (try simp (maxSteps := 1000000) (disch := first | omega | assumption | exact Nat.le_of_ble_eq_true rfl) only [go_sem, ↓mwp_block, simprocAttr, e13])
            omega
        · have : ¬ (xs[i].toNat : Int) = ys[i].toNat := fun h => hxy (UInt8.toNat_inj.1 (by omega))
          (try simp (maxSteps := 1000000) (disch := first | omega | assumption | exact Nat.le_of_ble_eq_true rfl) only [go_sem, ↓mwp_block, simprocAttr])
          exact hK _ _ ⟨by rw [dcd_false]; rintro rfl; exact hxy rfl, rfl⟩
      · obtain rfl : i = xs.length := by omega
        (try simp (maxSteps := 1000000) (disch := first | omega | assumption | exact Nat.le_of_ble_eq_true rfl) only [go_sem, ↓mwp_block, simprocAttr])
        refine hK _ _ ⟨?_, rfl⟩
        rw [dcd_true]
        rw [List.take_length, hlen, List.take_length] at hx
        exact hx
  · (refine enterK c_recouplaw01_Bytes (Nat.le_of_ble_eq_true rfl) fun K hK => ?_; (try simp (maxSteps := 1000000) (disch := first | omega | assumption | exact Nat.le_of_ble_eq_true rfl) only [go_sem, ↓mwp_block, simprocAttr, ir_recouplaw01_Bytes]))
    exact hK _ _ ⟨by rw [dcd_false]; rintro rfl; exact hlen rfl, rfl⟩
end Go.Proofs.Ytnjjdpeglkiifaa.MX

/- A literal's bytes, turned to the type that they have already: the model marks their block. -/
namespace Go.Proofs.Ytnjjdpeglkiifaa.MX
open Go Go.Proofs
set_option linter.unusedSimpArgs false
set_option linter.unusedVariables false

/-- Cells of a literal that was marked. -/
def markA (b : Nat) (cs : List Value) (T : Nat) : HP where
  P h B := B = [b] ∧ blk h b = some (cs, T, (cs.length, cs.length + 1))
  loc := fun ⟨e, hb⟩ hk => ⟨e, by subst e; rw [← hb]; simp only [blk, hk b (by simp)]⟩
  lt := fun ⟨e, hb⟩ b' hm => by subst e; simp at hm; subst hm; exact blk_lt hb
theorem St.markArr {α : Type} {enc : α → List Value} {sz : Nat} (hsz : ∀ x, (enc x).length = sz) {h0 h : Heap} {l : List HP} {b T : Nat} {ys : List α} (S : St h0 h (markA b (ys.flatMap enc) T :: l)) : Arr enc sz h (some ⟨b, 0, none⟩) ys := by
  obtain ⟨B, ⟨_, hb⟩, _⟩ := S.hd
  intro i hi
  refine ⟨b, 0, rfl, ?_⟩
  have h1 : (i + 1) * sz ≤ ys.length * sz := Nat.mul_le_mul_right _ hi
  rw [Nat.succ_mul] at h1
  rw [Nat.zero_add, rdN_blk hb (by rw [flat_length hsz]; exact h1)]
  have := flat_get hsz ys [] i hi
  rw [List.append_nil] at this
  rw [this]
theorem any_b2b {P : Program} {o : Oper} {t e n : Nat} (ho : o.op = .convert t t (.tmp n)) (ht : P.underlying t = some (.slice e)) (he : P.underlying e = some (.int .u8)) {ρ : Env} {h0 h : Heap} {l : List HP} {K : Value → Heap → Prop} {s1 : Tag ρ} {s2 : Tag h} {s3 : Tag K}
    {b off len c T : Nat} {cs : List Value} (hv : ρ n = .slice (some ⟨b, off, none⟩) len c) (S : St h0 h (cellA b cs T :: l)) (hk : ∀ h', St h0 h' (markA b cs T :: l) → K (.slice (some ⟨b, off, none⟩) len c) h') : anyT P o ρ h K s1 s2 s3 := by
  obtain ⟨B, ⟨hB, hb⟩, _, hup⟩ := S.hd
  intro w a hw hops
  have hx : a.eval (.tmp n) = .slice (some ⟨b, off, none⟩) len c := by
    rw [← hv]
    exact hops (.tmp n) (by rw [ho]; simp [Op.operands])
  have hcell : w.heap[b]? = some (.cells cs.toArray T (0, 0)) := by
    rw [hw]
    unfold blk at hb
    split at hb
    · rename_i c' e' f' hc
      injection hb with hb
      injection hb with h1 h2
      injection h2 with h2 h3
      rw [hc, ← h1, h2, h3]
    · cases hb
  have hshape : w.shape? b = some (T, cs.length) := by simp only [World.shape?, hcell, List.size_toArray]
  have hfz : w.freeze { block := b, off := cs.length } 1 = { w with heap := w.heap.setIfInBounds b (.cells cs.toArray T (cs.length, cs.length + 1)) } := by
    simp only [World.freeze, Nat.one_ne_zero, if_false]
    congr 1
    apply Array.ext_getElem?
    intro i
    rw [Array.getElem?_modify, Array.getElem?_setIfInBounds]
    by_cases hi : b = i
    · subst hi
      obtain ⟨hlt, hget⟩ := Array.getElem?_eq_some_iff.1 hcell
      simp [hcell, hlt]
      rw [hget]
      simp
    · simp [hi]
  refine ⟨.slice (some ⟨b, off, none⟩) len c, { w with heap := w.heap.setIfInBounds b (.cells cs.toArray T (cs.length, cs.length + 1)) }, .inl ?_, ⟨rfl, rfl, rfl⟩, ?_⟩
  · simp [execOp, ho, convert, und_run ht, und_run he, hx, markStringish, hshape, hfz]
  · refine hk _ (hup _ (markA b cs T) [b] ?_ ⟨rfl, ?_⟩ (fun b' hm => .inl (by rw [hB]; exact hm)))
    · subst hw hB
      exact (Fr.refl _ _).set (.inl (by simp)) _
    · subst hw
      exact blk_set_eq (blk_lt hb)
end Go.Proofs.Ytnjjdpeglkiifaa.MX

/- The sum of bytes by the program and by the document; frames. -/
namespace Go.Proofs.Ytnjjdpeglkiifaa.MX
open Go Go.Proofs
set_option linter.unusedSimpArgs false
set_option linter.unusedVariables false

set_option maxHeartbeats 2000000 in
theorem Sum_ok {A : Option Addr} {c : Nat} {xs : List UInt8} {h : Heap} (ha : Arr bEnc 1 h A xs) (hl : xs.length < 1000000000) :
    CallsH Try.prog 124 [.slice A xs.length c] h fun v h' => v = .int .u32 (sumOf xs) ∧ h' = h := by
  (refine enterK c_frame_Sum (Nat.le_of_ble_eq_true rfl) fun K hK => ?_; (try simp (maxSteps := 1000000) (disch := first | omega | assumption | exact Nat.le_of_ble_eq_true rfl) only [go_sem, ↓mwp_block, simprocAttr, ir_frame_Sum]))
  refine loop_intro (fun ρ h' => h' = h ∧ ρ 7 = .slice A xs.length c ∧ ρ 8 = .int .i64 xs.length ∧ ∃ i : Nat, ρ 9 = .int .i64 i ∧ i ≤ xs.length ∧ ρ 3 = .int .u32 (crcOf (xs.take i))) (fun ρ _ => xs.length - (iv (ρ 9)).toNat) ?_ ?_
  · (try simp (maxSteps := 1000000) (disch := first | omega | assumption | exact Nat.le_of_ble_eq_true rfl) only [go_sem, ↓mwp_block, simprocAttr])
    exact ⟨0, rfl, Nat.zero_le _, rfl⟩
  · rintro ρ h' J hJ ⟨hh, e7, e8, i, e9, hi, e3⟩
    subst hh
    (try simp (maxSteps := 1000000) (disch := first | omega | assumption | exact Nat.le_of_ble_eq_true rfl) only [go_sem, ↓mwp_block, simprocAttr, e8, e9])
    refine cond_dec (fun hg => ?_) (fun hg => ?_)
    · have hlt : i < xs.length := by omega
      obtain ⟨b, off, rfl, hr⟩ := ha.at hlt
      have r1 := rd1_part0 hr (by omega)
      simp only [bEnc, List.getElem?_cons_zero] at r1
      have hcl := crc_lt (xs.take i)
      have hsu := crc_succ xs hlt
      have hbl := xs[i].toNat_lt
      generalize hs : crcOf (xs.take i) = s at e3 hcl hsu
      generalize hx : xs[i] = x at r1 hsu hbl
      have hxl := xor_lt32 hcl (show x.toNat < 4294967296 by omega)
      (try simp (maxSteps := 1000000) (disch := first | omega | assumption | exact Nat.le_of_ble_eq_true rfl) only [go_sem, ↓mwp_block, simprocAttr, e7, e9, e3, r1, bxor32])
      refine loop_intro (fun ρ h'' => h'' = h' ∧ ρ 7 = .slice (some ⟨b, off, none⟩) xs.length c ∧ ρ 8 = .int .i64 xs.length ∧ ρ 9 = .int .i64 i ∧ ∃ k : Nat, ρ 17 = .int .i64 k ∧ k ≤ 8 ∧ ρ 3 = .int .u32 (steps k (s ^^^ x.toNat))) (fun ρ _ => 8 - (iv (ρ 17)).toNat) ?_ ?_
      · (try simp (maxSteps := 1000000) (disch := first | omega | assumption | exact Nat.le_of_ble_eq_true rfl) only [go_sem, ↓mwp_block, simprocAttr, e7, e8, e9])
        exact ⟨0, rfl, by omega, rfl⟩
      · have hmu : (iv (ρ 9)).toNat = i := by rw [e9]; rfl
        clear e7 e8 e9 e3
        rintro ρ h2 J2 hJ2 ⟨hh, e7, e8, e9, k, e17, hk, e3⟩
        subst hh
        have hkl := steps_lt hxl k
        generalize hq : steps k (s ^^^ x.toNat) = q at e3 hkl
        (try simp (maxSteps := 1000000) (disch := first | omega | assumption | exact Nat.le_of_ble_eq_true rfl) only [go_sem, ↓mwp_block, simprocAttr, e17])
        refine cond_dec (fun hg8 => ?_) (fun hg8 => ?_)
        · have hw1 : ((q % 2 : Nat) : Int) < 2 := by omega
          have hstep : steps (k + 1) (s ^^^ x.toNat) = step q := by rw [steps, hq]
          by_cases hodd : q % 2 = 1
          · have h1 : ((q % 2 : Nat) : Int) = 1 := by omega
            (try simp (maxSteps := 1000000) (disch := first | omega | assumption | exact Nat.le_of_ble_eq_true rfl) only [go_sem, ↓mwp_block, simprocAttr, e3, e17, band32, shr1_32, h1, bxor32])
            refine hJ2 _ _ ?_ ?_
            · (try simp (maxSteps := 1000000) (disch := first | omega | assumption | exact Nat.le_of_ble_eq_true rfl) only [go_sem, ↓mwp_block, simprocAttr, e7, e8, e9, e17])
              exact ⟨k + 1, rfl, by omega, by rw [hstep, step, if_pos hodd]; rfl⟩
            · (try simp (maxSteps := 1000000) (disch := first | omega | assumption | exact Nat.le_of_ble_eq_true rfl) only [go_sem, ↓mwp_block, simprocAttr, e17])
              omega
          · have h1 : ((q % 2 : Nat) : Int) = 0 := by omega
            (try simp (maxSteps := 1000000) (disch := first | omega | assumption | exact Nat.le_of_ble_eq_true rfl) only [go_sem, ↓mwp_block, simprocAttr, e3, e17, band32, shr1_32, h1, bxor32])
            refine hJ2 _ _ ?_ ?_
            · (try simp (maxSteps := 1000000) (disch := first | omega | assumption | exact Nat.le_of_ble_eq_true rfl) only [go_sem, ↓mwp_block, simprocAttr, e7, e8, e9, e17])
              exact ⟨k + 1, rfl, by omega, by rw [hstep, step, if_neg hodd]⟩
            · (try simp (maxSteps := 1000000) (disch := first | omega | assumption | exact Nat.le_of_ble_eq_true rfl) only [go_sem, ↓mwp_block, simprocAttr, e17])
              omega
        · obtain rfl : k = 8 := by omega
          (try simp (maxSteps := 1000000) (disch := first | omega | assumption | exact Nat.le_of_ble_eq_true rfl) only [go_sem, ↓mwp_block, simprocAttr, e9])
          refine hJ _ _ ?_ ?_
          · (try simp (maxSteps := 1000000) (disch := first | omega | assumption | exact Nat.le_of_ble_eq_true rfl) only [go_sem, ↓mwp_block, simprocAttr, e7, e8, e9, e3])
            exact ⟨i + 1, rfl, by omega, by rw [hsu, ← hq]; rfl⟩
          · rw [hmu]
            (try simp (maxSteps := 1000000) (disch := first | omega | assumption | exact Nat.le_of_ble_eq_true rfl) only [go_sem, ↓mwp_block, simprocAttr, e9])
            omega
    · obtain rfl : i = xs.length := by omega
      rw [List.take_length] at e3
      have hcl := crc_lt xs
      (try simp (maxSteps := 1000000) (disch := first | omega | assumption | exact Nat.le_of_ble_eq_true rfl) only [go_sem, ↓mwp_block, simprocAttr, e3, un_xor32])
      exact hK _ _ ⟨rfl, rfl⟩

theorem rcrc_succ (s : Nat) (x : UInt8) (k : Nat) : rsteps x.toNat (k + 1) s = rstep (rsteps x.toNat k s) x.toNat k := rfl
theorem shr_u8 (x k : Nat) (hk : k ≤ 8) : (x : Int).fdiv (2 ^ (min k 8)) = ((x / 2 ^ k : Nat) : Int) := by
  rw [Nat.min_eq_left hk, Int.fdiv_eq_ediv_of_nonneg _ (Int.le_of_lt (Int.pow_pos (by decide)))]
  simp

set_option maxHeartbeats 2000000 in
theorem RefSum_ok {A : Option Addr} {c : Nat} {xs : List UInt8} {h : Heap} (ha : Arr bEnc 1 h A xs) (hl : xs.length < 1000000000) :
    CallsH Try.prog 111 [.slice A xs.length c] h fun v h' => v = .int .u32 (sumOf xs) ∧ h' = h := by
  (refine enterK c_recoupref01_Sum (Nat.le_of_ble_eq_true rfl) fun K hK => ?_; (try simp (maxSteps := 1000000) (disch := first | omega | assumption | exact Nat.le_of_ble_eq_true rfl) only [go_sem, ↓mwp_block, simprocAttr, ir_recoupref01_Sum]))
  refine loop_intro (fun ρ h' => h' = h ∧ ρ 0 = .slice A xs.length c ∧ ρ 8 = .int .i64 xs.length ∧ ∃ i : Nat, ρ 9 = .int .i64 i ∧ i ≤ xs.length ∧ ρ 3 = .int .u32 (crcOf (xs.take i))) (fun ρ _ => xs.length - (iv (ρ 9)).toNat) ?_ ?_
  · (try simp (maxSteps := 1000000) (disch := first | omega | assumption | exact Nat.le_of_ble_eq_true rfl) only [go_sem, ↓mwp_block, simprocAttr])
    exact ⟨0, rfl, Nat.zero_le _, rfl⟩
  · rintro ρ h' J hJ ⟨hh, e0, e8, i, e9, hi, e3⟩
    subst hh
    (try simp (maxSteps := 1000000) (disch := first | omega | assumption | exact Nat.le_of_ble_eq_true rfl) only [go_sem, ↓mwp_block, simprocAttr, e8, e9])
    refine cond_dec (fun hg => ?_) (fun hg => ?_)
    · have hlt : i < xs.length := by omega
      obtain ⟨b, off, rfl, hr⟩ := ha.at hlt
      have r1 := rd1_part0 hr (by omega)
      simp only [bEnc, List.getElem?_cons_zero] at r1
      have hcl := crc_lt (xs.take i)
      have hsu := crc_succ xs hlt
      generalize hs : crcOf (xs.take i) = s at e3 hcl hsu
      generalize hx : xs[i] = x at r1 hsu
      have hbl := x.toNat_lt
      rw [eat, steps8 s x.toNat (by omega)] at hsu
      (try simp (maxSteps := 1000000) (disch := first | omega | assumption | exact Nat.le_of_ble_eq_true rfl) only [go_sem, ↓mwp_block, simprocAttr, e0, e9, e3])
      refine loop_intro (fun ρ h'' => h'' = h' ∧ ρ 0 = .slice (some ⟨b, off, none⟩) xs.length c ∧ ρ 8 = .int .i64 xs.length ∧ ρ 9 = .int .i64 i ∧ ρ 4 = .int .i64 i ∧ ∃ k : Nat, ρ 12 = .int .i64 k ∧ k ≤ 8 ∧ ρ 3 = .int .u32 (rsteps x.toNat k s)) (fun ρ _ => 8 - (iv (ρ 12)).toNat) ?_ ?_
      · (try simp (maxSteps := 1000000) (disch := first | omega | assumption | exact Nat.le_of_ble_eq_true rfl) only [go_sem, ↓mwp_block, simprocAttr, e0, e8, e9, e3])
        exact ⟨0, rfl, by omega, rfl⟩
      · have hmu : (iv (ρ 9)).toNat = i := by rw [e9]; rfl
        clear e0 e8 e9 e3
        rintro ρ h2 J2 hJ2 ⟨hh, e0, e8, e9, e4, k, e12, hk, e3⟩
        subst hh
        have hkl := rsteps_lt (b := x.toNat) hcl k
        have hstep := rcrc_succ s x k
        generalize hq : rsteps x.toNat k s = q at e3 hkl hstep
        (try simp (maxSteps := 1000000) (disch := first | omega | assumption | exact Nat.le_of_ble_eq_true rfl) only [go_sem, ↓mwp_block, simprocAttr, e12])
        refine cond_dec (fun hg8 => ?_) (fun hg8 => ?_)
        · have hwk : IntKind.u64.wrap (k : Int) = k := wrap_u64 (by omega) (by omega)
          have hxk : x.toNat / 2 ^ k ≤ x.toNat := Nat.div_le_self _ _
          have hwx : IntKind.u32.wrap ((x.toNat / 2 ^ k : Nat) : Int) = ((x.toNat / 2 ^ k : Nat) : Int) := wrap_nat32 (by omega)
          have hsh := shr_u8 x.toNat k (by omega)
          have hmk : min k 8 = k := by omega
          rw [hmk] at hsh
          have hl2 : (q / 2 : Nat) < 4294967296 := by omega
          unfold rstep at hstep
          generalize x.toNat / 2 ^ k = z at hxk hwx hsh hstep
          by_cases hodd : q % 2 = z % 2
          · have h1 : ((q % 2 : Nat) : Int) = ((z % 2 : Nat) : Int) := by omega
            (try simp (maxSteps := 1000000) (disch := first | omega | assumption | exact Nat.le_of_ble_eq_true rfl) only [go_sem, ↓mwp_block, simprocAttr, e0, e4, e3, e12, r1, band32, hwk, hmk, hsh, hwx, h1])
            refine hJ2 _ _ ?_ ?_
            · (try simp (maxSteps := 1000000) (disch := first | omega | assumption | exact Nat.le_of_ble_eq_true rfl) only [go_sem, ↓mwp_block, simprocAttr, e0, e4, e8, e9, e12, e3, shr1_32])
              exact ⟨k + 1, rfl, by omega, by rw [hstep, if_pos hodd]⟩
            · (try simp (maxSteps := 1000000) (disch := first | omega | assumption | exact Nat.le_of_ble_eq_true rfl) only [go_sem, ↓mwp_block, simprocAttr, e12])
              omega
          · have h1 : ¬ ((q % 2 : Nat) : Int) = ((z % 2 : Nat) : Int) := by omega
            (try simp (maxSteps := 1000000) (disch := first | omega | assumption | exact Nat.le_of_ble_eq_true rfl) only [go_sem, ↓mwp_block, simprocAttr, e0, e4, e3, e12, r1, band32, hwk, hmk, hsh, hwx, h1, shr1_32, bxor32])
            refine hJ2 _ _ ?_ ?_
            · (try simp (maxSteps := 1000000) (disch := first | omega | assumption | exact Nat.le_of_ble_eq_true rfl) only [go_sem, ↓mwp_block, simprocAttr, e0, e4, e8, e9, e12])
              exact ⟨k + 1, rfl, by omega, by rw [hstep, if_neg hodd]; rfl⟩
            · (try simp (maxSteps := 1000000) (disch := first | omega | assumption | exact Nat.le_of_ble_eq_true rfl) only [go_sem, ↓mwp_block, simprocAttr, e12])
              omega
        · obtain rfl : k = 8 := by omega
          (try simp (maxSteps := 1000000) (disch := first | omega | assumption | exact Nat.le_of_ble_eq_true rfl) only [go_sem, ↓mwp_block, simprocAttr, e9])
          refine hJ _ _ ?_ ?_
          · (try simp (maxSteps := 1000000) (disch := first | omega | assumption | exact Nat.le_of_ble_eq_true rfl) only [go_sem, ↓mwp_block, simprocAttr, e0, e8, e9, e3])
            exact ⟨i + 1, rfl, by omega, by rw [hsu, ← hq]⟩
          · rw [hmu]
            (try simp (maxSteps := 1000000) (disch := first | omega | assumption | exact Nat.le_of_ble_eq_true rfl) only [go_sem, ↓mwp_block, simprocAttr, e9])
            omega
    · obtain rfl : i = xs.length := by omega
      rw [List.take_length] at e3
      have hcl := crc_lt xs
      (try simp (maxSteps := 1000000) (disch := first | omega | assumption | exact Nat.le_of_ble_eq_true rfl) only [go_sem, ↓mwp_block, simprocAttr, e3, bxor32])
      exact hK _ _ ⟨rfl, rfl⟩
end Go.Proofs.Ytnjjdpeglkiifaa.MX

/- The engine, part R: from a walk over heaps to what a row asks. -/
namespace Go.Proofs.Ytnjjdpeglkiifaa.MX
open Go Go.RowKit
theorem toBelow {P : Program} {f : FuncId} {args : List Value} {W : World} (hc : CallsH P f args W.heap fun v h' => v = .bool true ∧ Fr W.heap h' []) :
    Calls P f args.toArray W fun e w' => e = .returned (.bool true) ∧ Below W.heap.size W w' := by
  refine (hc W rfl).mono ?_
  rintro e w' ⟨v, rfl, ha, rfl, hf⟩
  exact ⟨rfl, ha.1, ha.2.1, ha.2.2, hf.size, fun k hk => hf.same k hk (by simp)⟩
theorem wf_i64 {n : Int} (h : (Lit.int .i64 n).wf = true) : -9223372036854775808 ≤ n ∧ n < 9223372036854775808 := by
  simp [Lit.wf, IntKind.min, IntKind.max, IntKind.signed, IntKind.bits] at h
  omega
theorem wf_u8 {n : Int} (h : (Lit.int .u8 n).wf = true) : 0 ≤ n ∧ n < 256 := by
  simp [Lit.wf, IntKind.min, IntKind.max, IntKind.signed, IntKind.bits] at h
  omega
theorem wf_u16 {n : Int} (h : (Lit.int .u16 n).wf = true) : 0 ≤ n ∧ n < 65536 := by
  simp [Lit.wf, IntKind.min, IntKind.max, IntKind.signed, IntKind.bits] at h
  omega
theorem wf_u32 {n : Int} (h : (Lit.int .u32 n).wf = true) : 0 ≤ n ∧ n < 4294967296 := by
  simp [Lit.wf, IntKind.min, IntKind.max, IntKind.signed, IntKind.bits] at h
  omega
theorem wf_u64 {n : Int} (h : (Lit.int .u64 n).wf = true) : 0 ≤ n ∧ n < 18446744073709551616 := by
  simp [Lit.wf, IntKind.min, IntKind.max, IntKind.signed, IntKind.bits] at h
  omega
end Go.Proofs.Ytnjjdpeglkiifaa.MX
