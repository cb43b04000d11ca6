/- Texts in one file: In2, Fr3, MXV. -/
import Derived.Test.YtnjjdpeglkiifaaK12
import Derived.Test.YtnjjdpeglkiifaaK08
import Derived.Test.YtnjjdpeglkiifaaK09

/- Numbers that are read. -/
namespace Go.Proofs.Ytnjjdpeglkiifaa.MX
open Go Go.Proofs
set_option linter.unusedSimpArgs false
set_option linter.unusedVariables false

theorem numN (l : List UInt8) : ∃ m : Nat, num l = m ∧ m < 256 ^ l.length := by
  have h0 := num_nonneg l
  have h1 := num_lt l
  refine ⟨(num l).toNat, by omega, ?_⟩
  have : ((256 ^ l.length : Nat) : Int) = 256 ^ l.length := by simp
  omega
theorem inNumber_ok (n : Nat) {h0 h : Heap} {l : List HP} {i : Nat} {bs : List UInt8} {bad : Bool} (S : St h0 h (inA i bs bad :: l)) (hn : n ≤ 8) (hl : bs.length < 1000000000) :
    CallsH Try.prog 127 [.pointer (some ⟨i, 0, none⟩), .int .i64 n] h fun r h' => r = .int .u64 (rdV n bs bad) ∧ St h0 h' (inA i (rdB n bs bad) (rdX n bs bad) :: l) := by
  by_cases hb : bad = true ∨ bs.length < n
  · (refine enterK c_codec_In_number (Nat.le_of_ble_eq_true rfl) fun K hK => ?_; (try simp (maxSteps := 1000000) (disch := first | omega | assumption | exact Nat.le_of_ble_eq_true rfl) only [go_sem, ↓mwp_block, simprocAttr, ir_codec_In_number]))
    refine call_intro (take_bad n S hb hl (by omega)) ?_
    rintro _ h ⟨rfl, S⟩
    (try simp (maxSteps := 1000000) (disch := first | omega | assumption | exact Nat.le_of_ble_eq_true rfl) only [go_sem, ↓mwp_block, simprocAttr])
    refine loop_unroll 1 ?_
    (try simp (maxSteps := 1000000) (disch := first | omega | assumption | exact Nat.le_of_ble_eq_true rfl) only [go_sem, ↓mwp_block, simprocAttr])
    refine hK _ _ ⟨by rw [rdV, if_pos hb], ?_⟩
    have hx : rdX n bs bad = true := by
      rcases hb with rfl | hb
      · rfl
      · simp [rdX, hb]
    rw [rdB, if_pos hb, hx]
    exact S
  · have hbf : bad = false := by cases bad <;> simp_all
    subst hbf
    have hle : n ≤ bs.length := by
      by_cases h : bs.length < n
      · exact absurd (.inr h) hb
      · omega
    have hx : rdX n bs false = false := by simp [rdX]; omega
    have htl : (bs.take n).length = n := by simp; omega
    (refine enterK c_codec_In_number (Nat.le_of_ble_eq_true rfl) fun K hK => ?_; (try simp (maxSteps := 1000000) (disch := first | omega | assumption | exact Nat.le_of_ble_eq_true rfl) only [go_sem, ↓mwp_block, simprocAttr, ir_codec_In_number]))
    refine call_intro (take_ok n S hle hl) ?_
    rintro _ h ⟨A, B, c, rfl, hp, S⟩
    (try simp (maxSteps := 1000000) (disch := first | omega | assumption | exact Nat.le_of_ble_eq_true rfl) only [go_sem, ↓mwp_block, simprocAttr])
    refine loop_intro (fun ρ h' => h' = h ∧ ρ 10 = .slice A n n ∧ ρ 11 = .int .i64 n ∧ ∃ k : Nat, ρ 12 = .int .i64 k ∧ k ≤ n ∧ ρ 5 = .int .u64 (num ((bs.take n).take k))) (fun ρ _ => n - (iv (ρ 12)).toNat) ?_ ?_
    · (try simp (maxSteps := 1000000) (disch := first | omega | assumption | exact Nat.le_of_ble_eq_true rfl) only [go_sem, ↓mwp_block, simprocAttr])
      exact ⟨0, rfl, by omega, rfl⟩
    · rintro ρ h' J hJ ⟨hh, e10, e11, k, e12, hk, e5⟩
      subst hh
      (try simp (maxSteps := 1000000) (disch := first | omega | assumption | exact Nat.le_of_ble_eq_true rfl) only [go_sem, ↓mwp_block, simprocAttr, e11, e12])
      refine cond_dec (fun hg => ?_) (fun hg => ?_)
      · have hk1 : k < (bs.take n).length := by omega
        have ha := S.p1.view (x := (A, bs.take n)) (by simp)
        obtain ⟨b, off, hA, hr⟩ := ha.at hk1
        simp only at hA
        subst hA
        have r1 := rd1_part0 hr (by omega)
        simp only [bEnc, List.getElem?_cons_zero] at r1
        have hnext := num_take_succ (bs.take n) hk1
        obtain ⟨m, hm1, hm2⟩ := numN ((bs.take n).take k)
        rw [List.length_take, htl, Nat.min_eq_left hk] at hm2
        generalize hxx : (bs.take n)[k] = x at r1 hnext
        have hxl := x.toNat_lt
        rw [hm1] at e5 hnext
        have h256 : (256 : Int) ^ k = ((256 ^ k : Nat) : Int) := by simp
        have hw0 : IntKind.u64.wrap (x.toNat : Int) = x.toNat := wrap_u64 (by omega) (by omega)
        have hw1 : IntKind.i64.wrap (8 * (k : Int)) = 8 * k := wrap_i64 (by omega) (by omega)
        have h8 : x.toNat * 256 ^ k < 18446744073709551616 := by
          have h1 : x.toNat * 256 ^ k ≤ 255 * 256 ^ 7 := Nat.mul_le_mul (by omega) (Nat.pow_le_pow_right (by decide) (by omega))
          exact Nat.lt_of_le_of_lt h1 (by decide)
        have hsh : IntKind.u64.wrap ((x.toNat : Int) * 2 ^ (min (8 * (k : Int)).toNat 64)) = ((x.toNat * 256 ^ k : Nat) : Int) := by
          have e : min (8 * (k : Int)).toNat 64 = 8 * k := by omega
          rw [e, Int.pow_mul]
          have e2 : ((x.toNat : Int) * (2 ^ 8) ^ k) = ((x.toNat * 256 ^ k : Nat) : Int) := by simp
          rw [e2, wrap_u64 (by omega) (by omega)]
        have hor := bor64 (v := m) (c := x.toNat) (k := k) hm2 (by omega) (by omega)
        (try simp (maxSteps := 1000000) (disch := first | omega | assumption | exact Nat.le_of_ble_eq_true rfl) only [go_sem, ↓mwp_block, simprocAttr, e10, e12, e5, r1, hw0, hw1, hsh, hor])
        refine hJ _ _ ?_ ?_
        · (try simp (maxSteps := 1000000) (disch := first | omega | assumption | exact Nat.le_of_ble_eq_true rfl) only [go_sem, ↓mwp_block, simprocAttr, e10, e11, e12])
          refine ⟨k + 1, rfl, by omega, ?_⟩
          rw [hnext, h256]
          simp
        · (try simp (maxSteps := 1000000) (disch := first | omega | assumption | exact Nat.le_of_ble_eq_true rfl) only [go_sem, ↓mwp_block, simprocAttr, e12])
          omega
      · obtain rfl : k = n := by omega
        (try simp (maxSteps := 1000000) (disch := first | omega | assumption | exact Nat.le_of_ble_eq_true rfl) only [go_sem, ↓mwp_block, simprocAttr, e5])
        refine hK _ _ ⟨?_, ?_⟩
        · rw [rdV, if_neg (by simp; omega), List.take_take, Nat.min_self]
        · rw [rdB, if_neg (by simp; omega), hx]
          refine inA_open.2 ⟨B, c, hp, ?_⟩
          refine (S.p1.reView (M := [(B, bs.drop k)]) ?_ ?_).p1
          · intro x hx
            simp only [List.mem_cons, List.not_mem_nil, or_false] at hx
            subst hx
            exact S.p1.view (by simp)
          · intro x hx b hb
            simp only [List.mem_cons, List.not_mem_nil, or_false] at hx
            subst hx
            exact ⟨_, by simp, hb⟩
theorem rdV_nn (n : Nat) (bs : List UInt8) (bad : Bool) : 0 ≤ rdV n bs bad ∧ rdV n bs bad < 256 ^ n := by
  unfold rdV
  split
  · exact ⟨Int.le_refl _, Int.pow_pos (by decide)⟩
  · rename_i hb
    have h1 := num_lt (bs.take n)
    have h2 : (bs.take n).length = n := by simp only [not_or] at hb; simp; omega
    rw [h2] at h1
    exact ⟨num_nonneg _, h1⟩
theorem rdB_le (n : Nat) (bs : List UInt8) (bad : Bool) : (rdB n bs bad).length ≤ bs.length := by
  unfold rdB
  split <;> simp
theorem inU16_ok {h0 h : Heap} {l : List HP} {i : Nat} {bs : List UInt8} {bad : Bool} (S : St h0 h (inA i bs bad :: l)) (hl : bs.length < 1000000000) :
    CallsH Try.prog 128 [.pointer (some ⟨i, 0, none⟩)] h fun r h' => r = .int .i64 (rdV 2 bs bad) ∧ St h0 h' (inA i (rdB 2 bs bad) (rdX 2 bs bad) :: l) := by
  have hv := rdV_nn 2 bs bad
  have hw : IntKind.i64.wrap (rdV 2 bs bad) = rdV 2 bs bad := wrap_i64 (by omega) (by simp at hv; omega)
  (refine enterK c_codec_In_U16 (Nat.le_of_ble_eq_true rfl) fun K hK => ?_; (try simp (maxSteps := 1000000) (disch := first | omega | assumption | exact Nat.le_of_ble_eq_true rfl) only [go_sem, ↓mwp_block, simprocAttr, ir_codec_In_U16]))
  refine call_intro (inNumber_ok 2 S (by omega) hl) ?_
  rintro _ h ⟨rfl, S⟩
  (try simp (maxSteps := 1000000) (disch := first | omega | assumption | exact Nat.le_of_ble_eq_true rfl) only [go_sem, ↓mwp_block, simprocAttr, hw])
  exact hK _ _ ⟨rfl, S⟩
theorem inU32_ok {h0 h : Heap} {l : List HP} {i : Nat} {bs : List UInt8} {bad : Bool} (S : St h0 h (inA i bs bad :: l)) (hl : bs.length < 1000000000) :
    CallsH Try.prog 119 [.pointer (some ⟨i, 0, none⟩)] h fun r h' => r = .int .i64 (rdV 4 bs bad) ∧ St h0 h' (inA i (rdB 4 bs bad) (rdX 4 bs bad) :: l) := by
  have hv := rdV_nn 4 bs bad
  have hw : IntKind.i64.wrap (rdV 4 bs bad) = rdV 4 bs bad := wrap_i64 (by omega) (by simp at hv; omega)
  (refine enterK c_codec_In_U32 (Nat.le_of_ble_eq_true rfl) fun K hK => ?_; (try simp (maxSteps := 1000000) (disch := first | omega | assumption | exact Nat.le_of_ble_eq_true rfl) only [go_sem, ↓mwp_block, simprocAttr, ir_codec_In_U32]))
  refine call_intro (inNumber_ok 4 S (by omega) hl) ?_
  rintro _ h ⟨rfl, S⟩
  (try simp (maxSteps := 1000000) (disch := first | omega | assumption | exact Nat.le_of_ble_eq_true rfl) only [go_sem, ↓mwp_block, simprocAttr, hw])
  exact hK _ _ ⟨rfl, S⟩
theorem NewIn_ok {h0 h : Heap} {l : List HP} {A : Option Addr} {c : Nat} {bs : List UInt8} (S : St h0 h l) (ha : Arr bEnc 1 h A bs) (hA : A = none → bs = []) (hl : bs.length < 100000000) :
    CallsH Try.prog 118 [.slice A bs.length c] h fun r h' => ∃ i, r = .pointer (some ⟨i, 0, none⟩) ∧ St h0 h' (inA i bs false :: l) := by
  (refine enterK c_codec_NewIn (Nat.le_of_ble_eq_true rfl) fun K hK => ?_; (try simp (maxSteps := 1000000) (disch := first | omega | assumption | exact Nat.le_of_ble_eq_true rfl) only [go_sem, ↓mwp_block, simprocAttr, ir_codec_NewIn]))
  refine call_intro (CloneB_ok S ha rfl hA (by omega)) ?_
  rintro v h ⟨S, _⟩
  obtain ⟨B, d, rfl⟩ := S.sl
  (try simp (maxSteps := 1000000) (disch := first | omega | assumption | exact Nat.le_of_ble_eq_true rfl) only [go_sem, ↓mwp_block, simprocAttr])
  (refine st_alloc S ?_; clear S; intro i h S; (try simp only [splice_cons, splice_nil, List.set_cons_zero, List.set_cons_succ, Nat.zero_add, Nat.reduceAdd, List.cons_append, List.nil_append] at S); ((try clear F); have F := S.all; (try simp only [all_cons, all_nil, says_cell, and_true] at F)))
  (try simp (maxSteps := 1000000) (disch := first | omega | assumption | exact Nat.le_of_ble_eq_true rfl) only [go_sem, ↓mwp_block, simprocAttr])
  refine hK _ _ ⟨i, rfl, inA_open.2 ⟨B, d, ?_, ?_⟩⟩
  · have ho := S.p1.own
    rcases ho with ⟨hv, rfl⟩ | ⟨b, cap, cs, hv, _, hle, h63, _⟩
    · injection hv with e1 e2 e3
      subst e1 e3
      exact ⟨by simp, by decide, by simp⟩
    · injection hv with e1 e2 e3
      subst e1 e3
      exact ⟨hle, h63, by intro a ha; cases ha; rfl⟩
  · obtain ⟨C, hp, _, hup⟩ := S.p1.hd
    have harr := S.p1.arr bEnc_len
    refine (hup h (viewsA [(B, bs)]) ([(B, bs)].flatMap vBlk) (Fr.refl _ _) ⟨by intro x hx; simp at hx; subst hx; exact harr, rfl⟩ ?_).p1
    intro b hb
    refine .inl ?_
    rw [hp.1]
    simp only [List.flatMap_cons, List.flatMap_nil, List.append_nil, vBlk] at hb
    split at hb
    · cases hb
    · cases B with
      | none => cases hb
      | some a => simpa [blkOf] using hb
end Go.Proofs.Ytnjjdpeglkiifaa.MX

/- The first frame of some bytes. -/
namespace Go.Proofs.Ytnjjdpeglkiifaa.MX
open Go Go.Proofs
set_option linter.unusedSimpArgs false
set_option linter.unusedVariables false

/-- How many bytes the first frame says that it has. -/
def frN (b : List UInt8) : Int := num ((b.drop 1).take 2)
def frX (b : List UInt8) : List UInt8 := (b.drop 7).take (frN b).toNat
def frOk (b : List UInt8) : Prop := ¬ b.length < 7 ∧ b[0]? = some 165 ∧ ¬ frN b < 1 ∧ ¬ 60000 < frN b ∧ ¬ (b.length : Int) - 7 < frN b ∧ num ((b.drop 3).take 4) = fsum (frX b)
open Classical in
noncomputable def firstOf (b : List UInt8) : Option (List UInt8) := if frOk b then some (frX b) else none
theorem firstOf_no {b : List UInt8} (h : ¬ frOk b) : firstOf b = none := by simp [firstOf, h]
theorem firstOf_yes {b : List UInt8} (h : frOk b) : firstOf b = some (frX b) := by simp [firstOf, h]
theorem frX_len {b : List UInt8} (h : frOk b) : ((frX b).length : Int) = frN b := by
  obtain ⟨h1, _, h2, _, h3, _⟩ := h
  simp only [frX, List.length_take, List.length_drop]
  omega
/-- What it is told as. -/
def toldF (A : Option Addr) (c : Nat) : Option (List UInt8) → Value
  | none => .tuple #[.slice none 0 0, .int .i64 0]
  | some x => .tuple #[.slice A x.length c, .int .i64 ((7 + x.length : Nat) : Int)]

theorem first_ok {h0 h : Heap} {l : List HP} {A : Option Addr} {c : Nat} {b : List UInt8} (S : St h0 h l) (ha : ∀ h', St h0 h' l → Arr bEnc 1 h' A b) (hc : b.length ≤ c) (hc2 : c < 9223372036854775808) (hl : b.length < 10000000) :
    CallsH Try.prog 121 [.slice A b.length c] h fun r h' => (∃ A' c', r = toldF A' c' (firstOf b) ∧ (∀ x, firstOf b = some x → x.length ≤ c' ∧ c' < 9223372036854775808 ∧ ∀ h', St h0 h' l → Arr bEnc 1 h' A' x)) ∧ St h0 h' l := by
  by_cases g1 : b.length < 7
  · (refine enterK c_frame_first (Nat.le_of_ble_eq_true rfl) fun K hK => ?_; (try simp (maxSteps := 1000000) (disch := first | omega | assumption | exact Nat.le_of_ble_eq_true rfl) only [go_sem, ↓mwp_block, simprocAttr, ir_frame_first]))
    refine hK _ _ ⟨⟨none, 0, ?_, ?_⟩, S⟩
    · rw [firstOf_no (fun h => h.1 g1)]; rfl
    · rw [firstOf_no (fun h => h.1 g1)]; intro x hx; cases hx
  obtain ⟨bk, off, rfl, hr0⟩ := (ha h S).at (show 0 < b.length by omega)
  have hb0 : b[0]? = some (b[0]'(by omega)) := List.getElem?_eq_getElem (by omega)
  rw [Nat.zero_mul, Nat.add_zero] at hr0
  have hd := rd1_part (k := 0) hr0
  simp only [bEnc, Nat.add_zero, List.getElem?_cons_zero] at hd
  generalize b[0]'(by omega) = x0 at hb0 hd
  by_cases g2 : (x0.toNat : Int) = 165
  case neg =>
    have hno : firstOf b = none := firstOf_no fun h => by
      have := h.2.1
      rw [hb0] at this
      cases this
      exact g2 rfl
    (refine enterK c_frame_first (Nat.le_of_ble_eq_true rfl) fun K hK => ?_; (try simp (maxSteps := 1000000) (disch := first | omega | assumption | exact Nat.le_of_ble_eq_true rfl) only [go_sem, ↓mwp_block, simprocAttr, ir_frame_first]))
    (try simp (maxSteps := 1000000) (disch := first | omega | assumption | exact Nat.le_of_ble_eq_true rfl) only [go_sem, ↓mwp_block, simprocAttr, hd, Nat.zero_mul, Nat.add_zero])
    refine hK _ _ ⟨⟨none, 0, by rw [hno]; rfl, by rw [hno]; intro x hx; cases hx⟩, S⟩
  have hx0 : x0 = 165 := by
    apply UInt8.toNat_inj.1
    have : x0.toNat = 165 := by omega
    simpa using this
  have h6 : ((b.drop 1).take 6).length = 6 := by simp; omega
  have e1 : rdV 2 ((b.drop 1).take 6) false = frN b := by
    simp only [rdV, h6, Bool.false_eq_true, false_or, show ¬ 6 < 2 by decide, if_false, List.take_take]
    rfl
  have e2 : rdB 2 ((b.drop 1).take 6) false = (b.drop 3).take 4 := by
    simp only [rdB, h6, Bool.false_eq_true, false_or, show ¬ 6 < 2 by decide, if_false, List.drop_take, List.drop_drop]
  have e3 : rdX 2 ((b.drop 1).take 6) false = false := by simp only [rdX, h6]; rfl
  have h4 : ((b.drop 3).take 4).length = 4 := by simp; omega
  have e4 : rdV 4 ((b.drop 3).take 4) false = num ((b.drop 3).take 4) := by
    simp only [rdV, h4, Bool.false_eq_true, false_or, show ¬ 4 < 4 by decide, if_false, List.take_take]
    rfl
  have hN0 : 0 ≤ frN b := num_nonneg _
  have hno : ∀ {p : Prop}, p → ¬ (frOk b ∧ p) → firstOf b = none := fun hp h => firstOf_no fun h1 => h ⟨h1, hp⟩
  have fin : ∀ h', firstOf b = none → St h0 h' l → (∃ A' c', Value.tuple #[.slice none 0 0, .int .i64 0] = toldF A' c' (firstOf b) ∧ (∀ x, firstOf b = some x → x.length ≤ c' ∧ c' < 9223372036854775808 ∧ ∀ h', St h0 h' l → Arr bEnc 1 h' A' x)) ∧ St h0 h' l := fun h' hno S => ⟨⟨none, 0, by rw [hno]; rfl, by rw [hno]; intro x hx; cases hx⟩, S⟩
  (refine enterK c_frame_first (Nat.le_of_ble_eq_true rfl) fun K hK => ?_; (try simp (maxSteps := 1000000) (disch := first | omega | assumption | exact Nat.le_of_ble_eq_true rfl) only [go_sem, ↓mwp_block, simprocAttr, ir_frame_first]))
  (try simp (maxSteps := 1000000) (disch := first | omega | assumption | exact Nat.le_of_ble_eq_true rfl) only [go_sem, ↓mwp_block, simprocAttr, hd, Nat.zero_mul, Nat.add_zero])
  have hin := NewIn_ok (c := ((c : Int) - 1).toNat) S (arr_take (arr_drop (ha h S) 1) 6) (by simp) (by omega)
  rw [h6] at hin
  refine call_intro hin ?_
  rintro _ h ⟨i, rfl, S⟩
  (try simp (maxSteps := 1000000) (disch := first | omega | assumption | exact Nat.le_of_ble_eq_true rfl) only [go_sem, ↓mwp_block, simprocAttr])
  refine call_intro (inU16_ok S (by omega)) ?_
  rintro _ h ⟨rfl, S⟩
  rw [e1, e2, e3] at *
  (try simp (maxSteps := 1000000) (disch := first | omega | assumption | exact Nat.le_of_ble_eq_true rfl) only [go_sem, ↓mwp_block, simprocAttr])
  refine call_intro (inU32_ok S (by omega)) ?_
  rintro _ h ⟨rfl, S⟩
  rw [e4]
  have S := S.tl
  by_cases g3 : frN b < 1
  · (try simp (maxSteps := 1000000) (disch := first | omega | assumption | exact Nat.le_of_ble_eq_true rfl) only [go_sem, ↓mwp_block, simprocAttr])
    exact hK _ _ (fin _ (firstOf_no fun h => h.2.2.1 g3) S)
  by_cases g4 : 60000 < frN b
  · (try simp (maxSteps := 1000000) (disch := first | omega | assumption | exact Nat.le_of_ble_eq_true rfl) only [go_sem, ↓mwp_block, simprocAttr])
    exact hK _ _ (fin _ (firstOf_no fun h => h.2.2.2.1 g4) S)
  by_cases g5 : (b.length : Int) - 7 < frN b
  · (try simp (maxSteps := 1000000) (disch := first | omega | assumption | exact Nat.le_of_ble_eq_true rfl) only [go_sem, ↓mwp_block, simprocAttr])
    exact hK _ _ (fin _ (firstOf_no fun h => h.2.2.2.2.1 g5) S)
  (try simp (maxSteps := 1000000) (disch := first | omega | assumption | exact Nat.le_of_ble_eq_true rfl) only [go_sem, ↓mwp_block, simprocAttr])
  have hXl : (frX b).length = (frN b).toNat := by simp only [frX, List.length_take, List.length_drop]; omega
  have hXa : ∀ h', St h0 h' l → Arr bEnc 1 h' (some ⟨bk, off + 7, none⟩) (frX b) := fun h' S => arr_take (arr_drop (ha h' S) 7) _
  have hE : (7 + frN b - 7).toNat = (frX b).length := by omega
  have hfs : fsum (frX b) < 4294967296 := sum_lt _
  rw [hE]
  refine call_intro (sum_ok S hXa (by omega)) ?_
  rintro _ h ⟨rfl, S⟩
  by_cases g6 : num ((b.drop 3).take 4) = fsum (frX b)
  · have hyes : frOk b := ⟨g1, by rw [hb0, hx0], g3, g4, g5, g6⟩
    (try simp (maxSteps := 1000000) (disch := first | omega | assumption | exact Nat.le_of_ble_eq_true rfl) only [go_sem, ↓mwp_block, simprocAttr])
    refine hK _ _ ⟨⟨some ⟨bk, off + 7, none⟩, ((c : Int) - 7).toNat, ?_, ?_⟩, S⟩
    · rw [firstOf_yes hyes, toldF, show (7 + frN b : Int) = ((7 + (frX b).length : Nat) : Int) by omega]
    · rw [firstOf_yes hyes]
      intro x hx
      cases hx
      exact ⟨by omega, by omega, hXa⟩
  · (try simp (maxSteps := 1000000) (disch := first | omega | assumption | exact Nat.le_of_ble_eq_true rfl) only [go_sem, ↓mwp_block, simprocAttr])
    exact hK _ _ (fin _ (firstOf_no fun h => g6 h.2.2.2.2.2) S)
theorem First_ok {h0 h : Heap} {l : List HP} {A : Option Addr} {c : Nat} {b : List UInt8} (S : St h0 h l) (ha : ∀ h', St h0 h' l → Arr bEnc 1 h' A b) (hc : b.length ≤ c) (hc2 : c < 9223372036854775808) (hl : b.length < 10000000) :
    CallsH Try.prog 117 [.slice A b.length c] h fun r h' => match firstOf b with
      | none => r = .tuple #[.slice none 0 0, .int .i64 0, .int .i64 3] ∧ St h0 h' l
      | some x => ∃ v, r = .tuple #[v, .int .i64 ((7 + x.length : Nat) : Int), .int .i64 0] ∧ St h0 h' (ownA bEnc 1 5 v x :: l) := by
  (refine enterK c_frame_First (Nat.le_of_ble_eq_true rfl) fun K hK => ?_; (try simp (maxSteps := 1000000) (disch := first | omega | assumption | exact Nat.le_of_ble_eq_true rfl) only [go_sem, ↓mwp_block, simprocAttr, ir_frame_First]))
  refine call_intro (first_ok S ha hc hc2 hl) ?_
  rintro _ h ⟨⟨A', c', rfl, hx⟩, S⟩
  cases hf : firstOf b with
  | none =>
    rw [hf] at hK
    (try simp (maxSteps := 1000000) (disch := first | omega | assumption | exact Nat.le_of_ble_eq_true rfl) only [go_sem, ↓mwp_block, simprocAttr, toldF])
    exact hK _ _ ⟨rfl, S⟩
  | some x =>
    rw [hf] at hK
    obtain ⟨hx1, hx2, hx3⟩ := hx x hf
    have hxl : 1 ≤ x.length ∧ x.length ≤ 60000 := by
      by_cases ho : frOk b
      · rw [firstOf_yes ho] at hf
        cases hf
        have := frX_len ho
        have h3 := ho.2.2.1
        have h4 := ho.2.2.2.1
        omega
      · rw [firstOf_no ho] at hf; cases hf
    (try simp (maxSteps := 1000000) (disch := first | omega | assumption | exact Nat.le_of_ble_eq_true rfl) only [go_sem, ↓mwp_block, simprocAttr, toldF])
    refine call_intro (CloneB_ok S (hx3 _ S) rfl ?_ (by omega)) ?_
    · rintro rfl
      obtain ⟨_, _, h, _⟩ := (hx3 _ S).at (show 0 < x.length by omega)
      cases h
    · rintro v h ⟨S, _⟩
      (try simp (maxSteps := 1000000) (disch := first | omega | assumption | exact Nat.le_of_ble_eq_true rfl) only [go_sem, ↓mwp_block, simprocAttr])
      exact hK _ _ ⟨v, rfl, S⟩
end Go.Proofs.Ytnjjdpeglkiifaa.MX

/- The engine, part V: things in a row; lists of things in another order. -/
namespace Go.Proofs.Ytnjjdpeglkiifaa.MX
open Go
set_option linter.unusedSimpArgs false
set_option linter.unusedVariables false

section
variable {α : Type} {F : α → HP} {h0 h : Heap} {l : List HP} {X : HP} {zs : List α} {n : Nat}
/-- Of things in a row: one taken out; and put back, or another one for it. -/
theorem row_pick (hn : n < zs.length) (S : St h0 h (X :: (zs.map F ++ l))) : St h0 h (F zs[n] :: X :: ((zs.take n ++ zs.drop (n + 1)).map F ++ l)) := by
  refine S.perm ?_
  have e : zs = zs.take n ++ zs[n] :: zs.drop (n + 1) := by rw [← List.drop_eq_getElem_cons hn, List.take_append_drop]
  conv => lhs; rw [e]
  rw [List.map_append, List.map_append, List.map_cons, List.append_assoc, List.append_assoc, List.cons_append]
  exact (List.Perm.cons X List.perm_middle).trans (List.Perm.swap _ _ _)
theorem row_put {z : α} (hn : n < zs.length) (S : St h0 h (F z :: X :: ((zs.take n ++ zs.drop (n + 1)).map F ++ l))) : St h0 h (X :: ((zs.set n z).map F ++ l)) := by
  refine S.perm ?_
  rw [List.set_eq_take_append_cons_drop, if_pos hn, List.map_append, List.map_append, List.map_cons, List.append_assoc, List.append_assoc, List.cons_append]
  exact (List.Perm.swap _ _ _).trans (List.Perm.cons X List.perm_middle.symm)
/-- A thing in a row, and another one for it that stands beside. -/
theorem row_swap {z : α} (hn : n < zs.length) (S : St h0 h (X :: F z :: (zs.map F ++ l))) : St h0 h (X :: ((zs.set n z).map F ++ l)) := by
  have S1 : St h0 h (X :: (zs.map F ++ (F z :: l))) := S.perm (List.Perm.cons X List.perm_middle.symm)
  have S2 := (row_pick hn S1).tl
  have S3 : St h0 h (F z :: X :: ((zs.take n ++ zs.drop (n + 1)).map F ++ l)) := S2.perm ((List.Perm.cons X List.perm_middle).trans (List.Perm.swap _ _ _))
  exact row_put hn S3
end

/-- One more thing behind a row. -/
theorem row_add {α : Type} {F : α → HP} {h0 h : Heap} {l : List HP} (R : List HP) {B : HP} {us : List α} {z : α} (S : St h0 h (F z :: (R ++ (B :: (us.map F ++ l))))) : St h0 h (R ++ (B :: ((us ++ [z]).map F ++ l))) := by
  refine S.perm ?_
  rw [List.map_append, List.append_assoc]
  exact List.perm_middle.symm.trans (List.Perm.append_left R ((List.Perm.swap _ _ _).trans (List.Perm.cons B List.perm_middle.symm)))
theorem St.dropL {h0 h : Heap} {l : List HP} : ∀ {ps : List HP}, St h0 h (ps ++ l) → St h0 h l
  | [], S => S
  | _ :: ps, S => St.dropL (ps := ps) S.tl
/-- What each thing in a row says. -/
theorem row_says {α : Type} {F : α → HP} {h0 h : Heap} {l : List HP} {zs : List α} (S : St h0 h (zs.map F ++ l)) : ∀ z ∈ zs, (F z).says h := by
  intro z hz
  obtain ⟨n, hn, rfl⟩ := List.getElem_of_mem hz
  have S1 := row_pick (X := empA) hn (St.emp.2 S)
  obtain ⟨B, hp, _⟩ := S1.hd
  exact ⟨B, hp⟩

/-- A slice's length and room. -/
theorem St.cap {α : Type} {enc : α → List Value} {sz T : Nat} {h0 h : Heap} {l : List HP} {A : Option Addr} {n c : Nat} {xs : List α} (S : St h0 h (ownA enc sz T (.slice A n c) xs :: l)) : n = xs.length ∧ n ≤ c ∧ c < 9223372036854775808 := by
  rcases S.own with ⟨hv, rfl⟩ | ⟨b, cap, cs, hv, _, hle, h63, _⟩
  · injection hv with e1 e2 e3
    subst e1 e2 e3
    simp
  · injection hv with e1 e2 e3
    subst e1 e2 e3
    exact ⟨rfl, hle, h63⟩

/-! Stores into a slice of the call's own. -/
section
variable {α : Type} {enc : α → List Value} {sz T : Nat} {h0 h : Heap} {l : List HP} {xs : List α}
theorem St.ownAt {A : Option Addr} {n c : Nat} (S : St h0 h (ownA enc sz T (.slice A n c) xs :: l)) (hne : 0 < xs.length) : ∃ b, A = some ⟨b, 0, none⟩ := by
  rcases S.own with ⟨_, rfl⟩ | ⟨b, cap, cs, hv, _⟩
  · simp at hne
  · injection hv with e1 e2 e3
    exact ⟨b, e1⟩
theorem splice_part (hsz : ∀ x, (enc x).length = sz) {i j : Nat} {vs cs : List Value} {x : α} (hi : i < xs.length) (hj : j + vs.length ≤ sz) (hx : enc x = splice (enc xs[i]) j vs) :
    splice (xs.flatMap enc ++ cs) (i * sz + j) vs = (xs.set i x).flatMap enc ++ cs := by
  have hlt : ((xs.take i).flatMap enc).length = i * sz := by rw [flat_length hsz, List.length_take, Nat.min_eq_left (by omega)]
  have h1 : xs.flatMap enc = (xs.take i).flatMap enc ++ (enc xs[i] ++ (xs.drop (i + 1)).flatMap enc) := by
    rw [flat_split enc xs i, List.drop_eq_getElem_cons hi, List.flatMap_cons]
  have he : enc xs[i] = (enc xs[i]).take j ++ (enc xs[i]).drop j := (List.take_append_drop _ _).symm
  have hjl : ((enc xs[i]).take j).length = j := by rw [List.length_take, hsz]; omega
  have hdl : ((enc xs[i]).drop j).length = sz - j := by rw [List.length_drop, hsz]
  have hx2 : enc x = (enc xs[i]).take j ++ vs ++ ((enc xs[i]).drop j).drop vs.length := by
    rw [hx]
    conv => lhs; rw [he]
    exact splice_append _ _ [] j hjl.symm vs (by omega)
  have e1 : xs.flatMap enc ++ cs = ((xs.take i).flatMap enc ++ (enc xs[i]).take j) ++ ((enc xs[i]).drop j ++ ((xs.drop (i + 1)).flatMap enc ++ cs)) := by
    rw [h1]
    conv => lhs; rw [he]
    simp only [List.append_assoc]
  rw [e1, splice_append _ _ [] (i * sz + j) (by rw [List.length_append, hlt, hjl]) vs (by rw [List.length_append]; omega), List.drop_append_of_le_length (by omega), List.set_eq_take_append_cons_drop, if_pos hi, List.flatMap_append, List.flatMap_cons, hx2]
  simp only [List.append_assoc]
theorem st_setPart (hsz : ∀ x, (enc x).length = sz) {b n c i j off m : Nat} {x : α} {vs : List Value} {K : Value → Heap → Prop} {s : Tag h} {t : Tag K} (S : St h0 h (ownA enc sz T (.slice (some ⟨b, 0, none⟩) n c) xs :: l))
    (hi : i < xs.length) (hoff : off = i * sz + j) (hj : j + vs.length ≤ sz) (hm : vs.length = m) (hpl : plainCells vs = true) (hx : enc x = splice (enc xs[i]) j vs)
    (hk : ∀ h', St h0 h' (ownA enc sz T (.slice (some ⟨b, 0, none⟩) n c) (xs.set i x) :: l) → K undef h') : storeT m (.pointer (some ⟨b, off, none⟩)) vs h K s t := by
  have ho := S.own
  rcases ho with ⟨hv, _⟩ | ⟨b', cap, cs, hv, _, hle, h63, hblk, hln⟩
  · cases hv
  injection hv with e1 e2 e3
  cases e1
  subst e2 e3
  have hfl := flat_length hsz xs
  have hroom : i * sz + sz ≤ xs.length * sz := by
    have := Nat.mul_le_mul_right sz (show i + 1 ≤ xs.length from hi)
    rwa [Nat.succ_mul] at this
  rw [storeT_eq, hblk]
  simp only [bind3]
  refine ⟨⟨hm, hpl, ?_⟩, ?_⟩
  · rw [room_00 (by rw [List.length_append, hfl]; omega)]
    trivial
  · rw [hoff, splice_part hsz hi hj hx]
    have hb := blk_lt hblk
    refine hk _ (S.ownUp ((Fr.refl _ _).set (.inl (by simp [blkOf])) _) ?_ (fun b hb => .inl hb))
    refine .inr ⟨b, c, cs, by rw [List.length_set], Nat.zero_le _, by rw [List.length_set]; exact hle, h63, blk_set_eq hb, ?_⟩
    rw [List.length_append, flat_length hsz, List.length_set, ← hfl, ← List.length_append]
    exact hln
theorem st_setOwn (hsz : ∀ x, (enc x).length = sz) {b n c i off m : Nat} {x : α} {vs : List Value} {K : Value → Heap → Prop} {s : Tag h} {t : Tag K} (S : St h0 h (ownA enc sz T (.slice (some ⟨b, 0, none⟩) n c) xs :: l))
    (hi : i < xs.length) (hoff : off = i * sz) (hvs : vs = enc x) (hm : sz = m) (hpl : plainCells vs = true)
    (hk : ∀ h', St h0 h' (ownA enc sz T (.slice (some ⟨b, 0, none⟩) n c) (xs.set i x) :: l) → K undef h') : storeT m (.pointer (some ⟨b, off, none⟩)) vs h K s t := by
  subst hvs
  refine st_setPart hsz (j := 0) S hi hoff (by rw [hsz]; omega) (by rw [hsz]; exact hm) hpl ?_ hk
  have := splice_append [] (enc xs[i]) [] 0 rfl (enc x) (by rw [hsz, hsz]; exact Nat.le_refl _)
  rw [List.nil_append, List.nil_append, List.drop_of_length_le (by rw [hsz, hsz]; exact Nat.le_refl _), List.append_nil] at this
  exact this.symm
end

/-! Lists in another order. -/
theorem pm0 { x : HP} {t M : List HP} (h : (t).Perm M) : (x :: t).Perm (x :: M) := (perm_pick [] x t).trans (List.Perm.cons x h)
theorem pm1 {a x : HP} {t M : List HP} (h : (a :: t).Perm M) : (a :: x :: t).Perm (x :: M) := (perm_pick [a] x t).trans (List.Perm.cons x h)
theorem pm2 {a b x : HP} {t M : List HP} (h : (a :: b :: t).Perm M) : (a :: b :: x :: t).Perm (x :: M) := (perm_pick [a, b] x t).trans (List.Perm.cons x h)
theorem pm3 {a b c x : HP} {t M : List HP} (h : (a :: b :: c :: t).Perm M) : (a :: b :: c :: x :: t).Perm (x :: M) := (perm_pick [a, b, c] x t).trans (List.Perm.cons x h)
theorem pm4 {a b c d x : HP} {t M : List HP} (h : (a :: b :: c :: d :: t).Perm M) : (a :: b :: c :: d :: x :: t).Perm (x :: M) := (perm_pick [a, b, c, d] x t).trans (List.Perm.cons x h)
theorem pm5 {a b c d e x : HP} {t M : List HP} (h : (a :: b :: c :: d :: e :: t).Perm M) : (a :: b :: c :: d :: e :: x :: t).Perm (x :: M) := (perm_pick [a, b, c, d, e] x t).trans (List.Perm.cons x h)
theorem pm6 {a b c d e f x : HP} {t M : List HP} (h : (a :: b :: c :: d :: e :: f :: t).Perm M) : (a :: b :: c :: d :: e :: f :: x :: t).Perm (x :: M) := (perm_pick [a, b, c, d, e, f] x t).trans (List.Perm.cons x h)
theorem pm7 {a b c d e f g x : HP} {t M : List HP} (h : (a :: b :: c :: d :: e :: f :: g :: t).Perm M) : (a :: b :: c :: d :: e :: f :: g :: x :: t).Perm (x :: M) := (perm_pick [a, b, c, d, e, f, g] x t).trans (List.Perm.cons x h)
theorem pm8 {a b c d e f g i x : HP} {t M : List HP} (h : (a :: b :: c :: d :: e :: f :: g :: i :: t).Perm M) : (a :: b :: c :: d :: e :: f :: g :: i :: x :: t).Perm (x :: M) := (perm_pick [a, b, c, d, e, f, g, i] x t).trans (List.Perm.cons x h)
theorem pm9 {a b c d e f g i j x : HP} {t M : List HP} (h : (a :: b :: c :: d :: e :: f :: g :: i :: j :: t).Perm M) : (a :: b :: c :: d :: e :: f :: g :: i :: j :: x :: t).Perm (x :: M) := (perm_pick [a, b, c, d, e, f, g, i, j] x t).trans (List.Perm.cons x h)
theorem pm10 {a b c d e f g i j k x : HP} {t M : List HP} (h : (a :: b :: c :: d :: e :: f :: g :: i :: j :: k :: t).Perm M) : (a :: b :: c :: d :: e :: f :: g :: i :: j :: k :: x :: t).Perm (x :: M) := (perm_pick [a, b, c, d, e, f, g, i, j, k] x t).trans (List.Perm.cons x h)
theorem pm11 {a b c d e f g i j k m x : HP} {t M : List HP} (h : (a :: b :: c :: d :: e :: f :: g :: i :: j :: k :: m :: t).Perm M) : (a :: b :: c :: d :: e :: f :: g :: i :: j :: k :: m :: x :: t).Perm (x :: M) := (perm_pick [a, b, c, d, e, f, g, i, j, k, m] x t).trans (List.Perm.cons x h)
theorem pm12 {a b c d e f g i j k m n x : HP} {t M : List HP} (h : (a :: b :: c :: d :: e :: f :: g :: i :: j :: k :: m :: n :: t).Perm M) : (a :: b :: c :: d :: e :: f :: g :: i :: j :: k :: m :: n :: x :: t).Perm (x :: M) := (perm_pick [a, b, c, d, e, f, g, i, j, k, m, n] x t).trans (List.Perm.cons x h)
/-- A block that was made for some values is a slice of the call's own. -/
theorem St.cellOwn {α : Type} {enc : α → List Value} {sz : Nat} (hsz : ∀ x, (enc x).length = sz) {h0 h : Heap} {l : List HP} {b T : Nat} {ys : List α} {cs : List Value} (S : St h0 h (cellA b cs T :: l)) (hc : cs = ys.flatMap enc) (hl : ys.length < 9223372036854775808) : St h0 h (ownA enc sz T (.slice (some ⟨b, 0, none⟩) ys.length ys.length) ys :: l) := by
  obtain ⟨B, ⟨hB, hb⟩, _, hup⟩ := S.hd
  subst hB
  refine hup _ _ [b] (Fr.refl _ _) ⟨rfl, .inr ⟨b, ys.length, [], rfl, Nat.zero_le _, Nat.le_refl _, hl, ?_, ?_⟩⟩ (fun b' hm => .inl hm)
  · rw [List.append_nil, hb, hc]
  · rw [List.append_nil, flat_length hsz]
theorem draw_inv {P : Program} {Q : MExit → Env → Heap → Prop} {ρ : Env} {h : Heap} {l : List MOper} {s : Sch} {t1 : Tag l} {t2 : Tag s} {t3 : Tag Q} {t4 : Tag ρ} {t5 : Tag h} (I : Heap → Prop) (hI : I h) (hw : schT P I l (Q .normal) s ρ h) : drawT P l s Q ρ h t1 t2 t3 t4 t5 := ⟨I, hI, hw⟩
theorem readT_v {F : Heap → Option Value} {v : Value} {K : Value → Prop} {t : Tag K} (h : Heap) (hF : F h = some v) : readT (fun h' => F h' = some v) F K t = K v := by
  apply propext
  constructor
  · rintro ⟨u, h1, h2⟩
    have := h1 h hF
    rw [hF] at this
    cases this
    exact h2
  · exact fun hk => ⟨v, fun _ e => e, hk⟩
theorem readT_I {I : Heap → Prop} {F : Heap → Option Value} {v : Value} {K : Value → Prop} {t : Tag K} (hI : ∀ h', I h' → F h' = some v) (h : Heap) (hh : I h) : readT I F K t = K v := by
  apply propext
  constructor
  · rintro ⟨u, h1, h2⟩
    have := h1 h hh
    rw [hI h hh] at this
    cases this
    exact h2
  · exact fun hk => ⟨v, hI, hk⟩
theorem cond_cut {P : Program} {b : Bool} {x y : MCode} {T : Env → Heap → Prop} {Q : MExit → Env → Heap → Prop} {ρ : Env} {h : Heap} {s : Tag (mwp P x (qseq T Q) ρ h)} {t : Tag (mwp P y (qseq T Q) ρ h)} (I : Env → Heap → Prop)
    (hX : b = true → ∀ J : Env → Heap → Prop, (∀ ρ h, I ρ h → J ρ h) → mwp P x (qseq J Q) ρ h) (hY : b = false → ∀ J : Env → Heap → Prop, (∀ ρ h, I ρ h → J ρ h) → mwp P y (qseq J Q) ρ h) (hT : ∀ ρ h, I ρ h → T ρ h) :
    condT (.bool b) (mwp P x (qseq T Q) ρ h) (mwp P y (qseq T Q) ρ h) s t := by
  cases b
  · simp only [condT, condW, Bool.false_eq_true, if_false]; exact hY rfl T hT
  · simp only [condT, condW, if_true]; exact hX rfl T hT
theorem seq_cut {P : Program} {a b : MCode} {Q : MExit → Env → Heap → Prop} {ρ : Env} {h : Heap} (I : Env → Heap → Prop) (hw : ∀ J : Env → Heap → Prop, (∀ ρ h, I ρ h → J ρ h) → mwp P a (qseq J Q) ρ h) (hT : ∀ ρ h, I ρ h → mwp P b Q ρ h) : mwp P (.seq a b) Q ρ h := hw _ hT
theorem cut_st {P : Program} {Q : MExit → Env → Heap → Prop} {ρ : Env} {h0 h : Heap} {L : List HP} {l : List MOper} {s : Sch} {t1 : Tag l} {t2 : Tag s} {t3 : Tag Q} {t4 : Tag ρ} {t5 : Tag h} (S : St h0 h L) (I : Env → Heap → Prop)
    (hw : ∀ J : Env → Heap → Prop, (∀ ρ h, I ρ h → J ρ h) → schT P (fun h' => St h0 h' L) l J s ρ h) (hT : ∀ ρ h, I ρ h → Q .normal ρ h) : drawT P l s Q ρ h t1 t2 t3 t4 t5 := ⟨_, S, hw _ hT⟩
end Go.Proofs.Ytnjjdpeglkiifaa.MX
