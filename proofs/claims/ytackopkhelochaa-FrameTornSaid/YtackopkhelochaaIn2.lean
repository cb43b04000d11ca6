/- Numbers that are read. -/
import Derived.Test.YtackopkhelochaaIn1
namespace Go.Proofs.Ytackopkhelochaa.MX
open Go Go.Proofs
set_option linter.unusedSimpArgs false
set_option linter.unusedVariables false

theorem numN (l : List UInt8) : ∃ m : Nat, num l = m ∧ m < 256 ^ l.length := by
  have h0 := num_nonneg l
  have h1 := num_lt l
  refine ⟨(num l).toNat, by omega, ?_⟩
  have : ((256 ^ l.length : Nat) : Int) = 256 ^ l.length := by simp
  omega
theorem inNumber_ok (n : Nat) {h0 h : Heap} {l : List HP} {i : Nat} {bs : List UInt8} {bad : Bool} (S : St h0 h (inA i bs bad :: l)) (hn : n ≤ 8) (hl : bs.length < 1000000000) :
    CallsH Try.prog 95 [.pointer (some ⟨i, 0, none⟩), .int .i64 n] h fun r h' => r = .int .u64 (rdV n bs bad) ∧ St h0 h' (inA i (rdB n bs bad) (rdX n bs bad) :: l) := by
  by_cases hb : bad = true ∨ bs.length < n
  · (refine enterK c_codec_In_number (Nat.le_of_ble_eq_true rfl) fun K hK => ?_; (try simp (maxSteps := 1000000) (disch := first | omega | assumption | exact Nat.le_of_ble_eq_true rfl) only [go_sem, ↓mwp_block, simprocAttr, ir_codec_In_number]))
    refine call_intro (take_bad n S hb hl (by omega)) ?_
    rintro _ h ⟨rfl, S⟩
    (try simp (maxSteps := 1000000) (disch := first | omega | assumption | exact Nat.le_of_ble_eq_true rfl) only [go_sem, ↓mwp_block, simprocAttr])
    refine loop_unroll 1 ?_
    (try simp (maxSteps := 1000000) (disch := first | omega | assumption | exact Nat.le_of_ble_eq_true rfl) only [go_sem, ↓mwp_block, simprocAttr])
    refine hK _ _ ⟨by rw [rdV, if_pos hb], ?_⟩
    have hx : rdX n bs bad = true := by
      rcases hb with rfl | hb
      · rfl
      · simp [rdX, hb]
    rw [rdB, if_pos hb, hx]
    exact S
  · have hbf : bad = false := by cases bad <;> simp_all
    subst hbf
    have hle : n ≤ bs.length := by
      by_cases h : bs.length < n
      · exact absurd (.inr h) hb
      · omega
    have hx : rdX n bs false = false := by simp [rdX]; omega
    have htl : (bs.take n).length = n := by simp; omega
    (refine enterK c_codec_In_number (Nat.le_of_ble_eq_true rfl) fun K hK => ?_; (try simp (maxSteps := 1000000) (disch := first | omega | assumption | exact Nat.le_of_ble_eq_true rfl) only [go_sem, ↓mwp_block, simprocAttr, ir_codec_In_number]))
    refine call_intro (take_ok n S hle hl) ?_
    rintro _ h ⟨A, B, c, rfl, hp, S⟩
    (try simp (maxSteps := 1000000) (disch := first | omega | assumption | exact Nat.le_of_ble_eq_true rfl) only [go_sem, ↓mwp_block, simprocAttr])
    refine loop_intro (fun ρ h' => h' = h ∧ ρ 10 = .slice A n n ∧ ρ 11 = .int .i64 n ∧ ∃ k : Nat, ρ 12 = .int .i64 k ∧ k ≤ n ∧ ρ 5 = .int .u64 (num ((bs.take n).take k))) (fun ρ _ => n - (iv (ρ 12)).toNat) ?_ ?_
    · (try simp (maxSteps := 1000000) (disch := first | omega | assumption | exact Nat.le_of_ble_eq_true rfl) only [go_sem, ↓mwp_block, simprocAttr])
      exact ⟨0, rfl, by omega, rfl⟩
    · rintro ρ h' J hJ ⟨hh, e10, e11, k, e12, hk, e5⟩
      subst hh
      (try simp (maxSteps := 1000000) (disch := first | omega | assumption | exact Nat.le_of_ble_eq_true rfl) only [go_sem, ↓mwp_block, simprocAttr, e11, e12])
      refine cond_dec (fun hg => ?_) (fun hg => ?_)
      · have hk1 : k < (bs.take n).length := by omega
        have ha := S.p1.view (x := (A, bs.take n)) (by simp)
        obtain ⟨b, off, hA, hr⟩ := ha.at hk1
        simp only at hA
        subst hA
        have r1 := rd1_part0 hr (by omega)
        simp only [bEnc, List.getElem?_cons_zero] at r1
        have hnext := num_take_succ (bs.take n) hk1
        obtain ⟨m, hm1, hm2⟩ := numN ((bs.take n).take k)
        rw [List.length_take, htl, Nat.min_eq_left hk] at hm2
        generalize hxx : (bs.take n)[k] = x at r1 hnext
        have hxl := x.toNat_lt
        rw [hm1] at e5 hnext
        have h256 : (256 : Int) ^ k = ((256 ^ k : Nat) : Int) := by simp
        have hw0 : IntKind.u64.wrap (x.toNat : Int) = x.toNat := wrap_u64 (by omega) (by omega)
        have hw1 : IntKind.i64.wrap (8 * (k : Int)) = 8 * k := wrap_i64 (by omega) (by omega)
        have h8 : x.toNat * 256 ^ k < 18446744073709551616 := by
          have h1 : x.toNat * 256 ^ k ≤ 255 * 256 ^ 7 := Nat.mul_le_mul (by omega) (Nat.pow_le_pow_right (by decide) (by omega))
          exact Nat.lt_of_le_of_lt h1 (by decide)
        have hsh : IntKind.u64.wrap ((x.toNat : Int) * 2 ^ (min (8 * (k : Int)).toNat 64)) = ((x.toNat * 256 ^ k : Nat) : Int) := by
          have e : min (8 * (k : Int)).toNat 64 = 8 * k := by omega
          rw [e, Int.pow_mul]
          have e2 : ((x.toNat : Int) * (2 ^ 8) ^ k) = ((x.toNat * 256 ^ k : Nat) : Int) := by simp
          rw [e2, wrap_u64 (by omega) (by omega)]
        have hor := bor64 (v := m) (c := x.toNat) (k := k) hm2 (by omega) (by omega)
        (try simp (maxSteps := 1000000) (disch := first | omega | assumption | exact Nat.le_of_ble_eq_true rfl) only [go_sem, ↓mwp_block, simprocAttr, e10, e12, e5, r1, hw0, hw1, hsh, hor])
        refine hJ _ _ ?_ ?_
        · (try simp (maxSteps := 1000000) (disch := first | omega | assumption | exact Nat.le_of_ble_eq_true rfl) only [go_sem, ↓mwp_block, simprocAttr, e10, e11, e12])
          refine ⟨k + 1, rfl, by omega, ?_⟩
          rw [hnext, h256]
          simp
        · (try simp (maxSteps := 1000000) (disch := first | omega | assumption | exact Nat.le_of_ble_eq_true rfl) only [go_sem, ↓mwp_block, simprocAttr, e12])
          omega
      · obtain rfl : k = n := by omega
        (try simp (maxSteps := 1000000) (disch := first | omega | assumption | exact Nat.le_of_ble_eq_true rfl) only [go_sem, ↓mwp_block, simprocAttr, e5])
        refine hK _ _ ⟨?_, ?_⟩
        · rw [rdV, if_neg (by simp; omega), List.take_take, Nat.min_self]
        · rw [rdB, if_neg (by simp; omega), hx]
          refine inA_open.2 ⟨B, c, hp, ?_⟩
          refine (S.p1.reView (M := [(B, bs.drop k)]) ?_ ?_).p1
          · intro x hx
            simp only [List.mem_cons, List.not_mem_nil, or_false] at hx
            subst hx
            exact S.p1.view (by simp)
          · intro x hx b hb
            simp only [List.mem_cons, List.not_mem_nil, or_false] at hx
            subst hx
            exact ⟨_, by simp, hb⟩
theorem rdV_nn (n : Nat) (bs : List UInt8) (bad : Bool) : 0 ≤ rdV n bs bad ∧ rdV n bs bad < 256 ^ n := by
  unfold rdV
  split
  · exact ⟨Int.le_refl _, Int.pow_pos (by decide)⟩
  · rename_i hb
    have h1 := num_lt (bs.take n)
    have h2 : (bs.take n).length = n := by simp only [not_or] at hb; simp; omega
    rw [h2] at h1
    exact ⟨num_nonneg _, h1⟩
theorem rdB_le (n : Nat) (bs : List UInt8) (bad : Bool) : (rdB n bs bad).length ≤ bs.length := by
  unfold rdB
  split <;> simp
theorem inU8_ok {h0 h : Heap} {l : List HP} {i : Nat} {bs : List UInt8} {bad : Bool} (S : St h0 h (inA i bs bad :: l)) (hl : bs.length < 1000000000) :
    CallsH Try.prog 93 [.pointer (some ⟨i, 0, none⟩)] h fun r h' => r = .int .i64 (rdV 1 bs bad) ∧ St h0 h' (inA i (rdB 1 bs bad) (rdX 1 bs bad) :: l) := by
  have hv := rdV_nn 1 bs bad
  have hw : IntKind.i64.wrap (rdV 1 bs bad) = rdV 1 bs bad := wrap_i64 (by omega) (by simp at hv; omega)
  (refine enterK c_codec_In_U8 (Nat.le_of_ble_eq_true rfl) fun K hK => ?_; (try simp (maxSteps := 1000000) (disch := first | omega | assumption | exact Nat.le_of_ble_eq_true rfl) only [go_sem, ↓mwp_block, simprocAttr, ir_codec_In_U8]))
  refine call_intro (inNumber_ok 1 S (by omega) hl) ?_
  rintro _ h ⟨rfl, S⟩
  (try simp (maxSteps := 1000000) (disch := first | omega | assumption | exact Nat.le_of_ble_eq_true rfl) only [go_sem, ↓mwp_block, simprocAttr, hw])
  exact hK _ _ ⟨rfl, S⟩
theorem inU16_ok {h0 h : Heap} {l : List HP} {i : Nat} {bs : List UInt8} {bad : Bool} (S : St h0 h (inA i bs bad :: l)) (hl : bs.length < 1000000000) :
    CallsH Try.prog 90 [.pointer (some ⟨i, 0, none⟩)] h fun r h' => r = .int .i64 (rdV 2 bs bad) ∧ St h0 h' (inA i (rdB 2 bs bad) (rdX 2 bs bad) :: l) := by
  have hv := rdV_nn 2 bs bad
  have hw : IntKind.i64.wrap (rdV 2 bs bad) = rdV 2 bs bad := wrap_i64 (by omega) (by simp at hv; omega)
  (refine enterK c_codec_In_U16 (Nat.le_of_ble_eq_true rfl) fun K hK => ?_; (try simp (maxSteps := 1000000) (disch := first | omega | assumption | exact Nat.le_of_ble_eq_true rfl) only [go_sem, ↓mwp_block, simprocAttr, ir_codec_In_U16]))
  refine call_intro (inNumber_ok 2 S (by omega) hl) ?_
  rintro _ h ⟨rfl, S⟩
  (try simp (maxSteps := 1000000) (disch := first | omega | assumption | exact Nat.le_of_ble_eq_true rfl) only [go_sem, ↓mwp_block, simprocAttr, hw])
  exact hK _ _ ⟨rfl, S⟩
theorem inU32_ok {h0 h : Heap} {l : List HP} {i : Nat} {bs : List UInt8} {bad : Bool} (S : St h0 h (inA i bs bad :: l)) (hl : bs.length < 1000000000) :
    CallsH Try.prog 91 [.pointer (some ⟨i, 0, none⟩)] h fun r h' => r = .int .i64 (rdV 4 bs bad) ∧ St h0 h' (inA i (rdB 4 bs bad) (rdX 4 bs bad) :: l) := by
  have hv := rdV_nn 4 bs bad
  have hw : IntKind.i64.wrap (rdV 4 bs bad) = rdV 4 bs bad := wrap_i64 (by omega) (by simp at hv; omega)
  (refine enterK c_codec_In_U32 (Nat.le_of_ble_eq_true rfl) fun K hK => ?_; (try simp (maxSteps := 1000000) (disch := first | omega | assumption | exact Nat.le_of_ble_eq_true rfl) only [go_sem, ↓mwp_block, simprocAttr, ir_codec_In_U32]))
  refine call_intro (inNumber_ok 4 S (by omega) hl) ?_
  rintro _ h ⟨rfl, S⟩
  (try simp (maxSteps := 1000000) (disch := first | omega | assumption | exact Nat.le_of_ble_eq_true rfl) only [go_sem, ↓mwp_block, simprocAttr, hw])
  exact hK _ _ ⟨rfl, S⟩
/-- A number that is at most so much; a greater one makes it bad. -/
theorem Most_ok (m : Int) {h0 h : Heap} {l : List HP} {i : Nat} {bs : List UInt8} {bad : Bool} (S : St h0 h (inA i bs bad :: l)) (hl : bs.length < 1000000000) :
    CallsH Try.prog 74 [.pointer (some ⟨i, 0, none⟩), .int .i64 m] h fun r h' => if rdV 2 bs bad > m then r = .int .i64 0 ∧ St h0 h' (inA i [] true :: l) else r = .int .i64 (rdV 2 bs bad) ∧ St h0 h' (inA i (rdB 2 bs bad) (rdX 2 bs bad) :: l) := by
  (refine enterK c_codec_In_Most (Nat.le_of_ble_eq_true rfl) fun K hK => ?_; (try simp (maxSteps := 1000000) (disch := first | omega | assumption | exact Nat.le_of_ble_eq_true rfl) only [go_sem, ↓mwp_block, simprocAttr, ir_codec_In_Most]))
  refine call_intro (inU16_ok S hl) ?_
  rintro _ h ⟨rfl, S⟩
  by_cases hm : rdV 2 bs bad > m
  · (try simp (maxSteps := 1000000) (disch := first | omega | assumption | exact Nat.le_of_ble_eq_true rfl) only [go_sem, ↓mwp_block, simprocAttr])
    refine call_intro (fail_ok S) fun r h S => ?_
    (try simp (maxSteps := 1000000) (disch := first | omega | assumption | exact Nat.le_of_ble_eq_true rfl) only [go_sem, ↓mwp_block, simprocAttr])
    refine hK _ _ ?_
    rw [if_pos hm]
    exact ⟨rfl, S⟩
  · (try simp (maxSteps := 1000000) (disch := first | omega | assumption | exact Nat.le_of_ble_eq_true rfl) only [go_sem, ↓mwp_block, simprocAttr])
    refine hK _ _ ?_
    rw [if_neg hm]
    exact ⟨rfl, S⟩
theorem Done_ok {h0 h : Heap} {l : List HP} {i : Nat} {bs : List UInt8} {bad : Bool} (S : St h0 h (inA i bs bad :: l)) :
    CallsH Try.prog 76 [.pointer (some ⟨i, 0, none⟩)] h fun r h' => r = .bool (dcd (bad = false ∧ bs = [])) ∧ h' = h := by
  obtain ⟨A, c, hp, S⟩ := inA_open.1 S
  (refine enterK c_codec_In_Done (Nat.le_of_ble_eq_true rfl) fun K hK => ?_; (try simp (maxSteps := 1000000) (disch := first | omega | assumption | exact Nat.le_of_ble_eq_true rfl) only [go_sem, ↓mwp_block, simprocAttr, ir_codec_In_Done]))
  ((try clear F); have F := S.all; (try simp only [all_cons, all_nil, says_cell, and_true] at F))
  cases bad
  · by_cases hb : bs.length = 0
    · (try simp (maxSteps := 1000000) (disch := first | omega | assumption | exact Nat.le_of_ble_eq_true rfl) only [go_sem, ↓mwp_block, simprocAttr, F])
      exact hK _ _ ⟨by rw [dcd_true]; exact ⟨rfl, List.eq_nil_of_length_eq_zero hb⟩, rfl⟩
    · (try simp (maxSteps := 1000000) (disch := first | omega | assumption | exact Nat.le_of_ble_eq_true rfl) only [go_sem, ↓mwp_block, simprocAttr, F])
      exact hK _ _ ⟨by rw [dcd_false]; rintro ⟨_, rfl⟩; exact hb rfl, rfl⟩
  · (try simp (maxSteps := 1000000) (disch := first | omega | assumption | exact Nat.le_of_ble_eq_true rfl) only [go_sem, ↓mwp_block, simprocAttr, F])
    exact hK _ _ ⟨by rw [dcd_false]; exact fun h => Bool.noConfusion h.1, rfl⟩
theorem NewIn_ok {h0 h : Heap} {l : List HP} {A : Option Addr} {c : Nat} {bs : List UInt8} (S : St h0 h l) (ha : Arr bEnc 1 h A bs) (hA : A = none → bs = []) (hl : bs.length < 100000000) :
    CallsH Try.prog 73 [.slice A bs.length c] h fun r h' => ∃ i, r = .pointer (some ⟨i, 0, none⟩) ∧ St h0 h' (inA i bs false :: l) := by
  (refine enterK c_codec_NewIn (Nat.le_of_ble_eq_true rfl) fun K hK => ?_; (try simp (maxSteps := 1000000) (disch := first | omega | assumption | exact Nat.le_of_ble_eq_true rfl) only [go_sem, ↓mwp_block, simprocAttr, ir_codec_NewIn]))
  refine call_intro (CloneB_ok S ha rfl hA (by omega)) ?_
  rintro v h ⟨S, _⟩
  obtain ⟨B, d, rfl⟩ := S.sl
  (try simp (maxSteps := 1000000) (disch := first | omega | assumption | exact Nat.le_of_ble_eq_true rfl) only [go_sem, ↓mwp_block, simprocAttr])
  (refine st_alloc S ?_; clear S; intro i h S; (try simp only [splice_cons, splice_nil, List.set_cons_zero, List.set_cons_succ, Nat.zero_add, Nat.reduceAdd, List.cons_append, List.nil_append] at S); ((try clear F); have F := S.all; (try simp only [all_cons, all_nil, says_cell, and_true] at F)))
  (try simp (maxSteps := 1000000) (disch := first | omega | assumption | exact Nat.le_of_ble_eq_true rfl) only [go_sem, ↓mwp_block, simprocAttr])
  refine hK _ _ ⟨i, rfl, inA_open.2 ⟨B, d, ?_, ?_⟩⟩
  · have ho := S.p1.own
    rcases ho with ⟨hv, rfl⟩ | ⟨b, cap, cs, hv, _, hle, h63, _⟩
    · injection hv with e1 e2 e3
      subst e1 e3
      exact ⟨by simp, by decide, by simp⟩
    · injection hv with e1 e2 e3
      subst e1 e3
      exact ⟨hle, h63, by intro a ha; cases ha; rfl⟩
  · obtain ⟨C, hp, _, hup⟩ := S.p1.hd
    have harr := S.p1.arr bEnc_len
    refine (hup h (viewsA [(B, bs)]) ([(B, bs)].flatMap vBlk) (Fr.refl _ _) ⟨by intro x hx; simp at hx; subst hx; exact harr, rfl⟩ ?_).p1
    intro b hb
    refine .inl ?_
    rw [hp.1]
    simp only [List.flatMap_cons, List.flatMap_nil, List.append_nil, vBlk] at hb
    split at hb
    · cases hb
    · cases B with
      | none => cases hb
      | some a => simpa [blkOf] using hb
end Go.Proofs.Ytackopkhelochaa.MX
