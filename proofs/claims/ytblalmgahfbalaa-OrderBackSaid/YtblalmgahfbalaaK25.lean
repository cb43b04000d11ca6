/- Texts in one file: In2, Tb6. -/
import Derived.Test.YtblalmgahfbalaaK24
import Derived.Test.YtblalmgahfbalaaK20

/- Numbers that are read. -/
namespace Go.Proofs.Ytblalmgahfbalaa.MX
open Go Go.Proofs
set_option linter.unusedSimpArgs false
set_option linter.unusedVariables false

theorem numN (l : List UInt8) : ∃ m : Nat, num l = m ∧ m < 256 ^ l.length := by
  have h0 := num_nonneg l
  have h1 := num_lt l
  refine ⟨(num l).toNat, by omega, ?_⟩
  have : ((256 ^ l.length : Nat) : Int) = 256 ^ l.length := by simp
  omega
theorem inNumber_ok (n : Nat) {h0 h : Heap} {l : List HP} {i : Nat} {bs : List UInt8} {bad : Bool} (S : St h0 h (inA i bs bad :: l)) (hn : n ≤ 8) (hl : bs.length < 1000000000) :
    CallsH Try.prog 67 [.pointer (some ⟨i, 0, none⟩), .int .i64 n] h fun r h' => r = .int .u64 (rdV n bs bad) ∧ St h0 h' (inA i (rdB n bs bad) (rdX n bs bad) :: l) := by
  by_cases hb : bad = true ∨ bs.length < n
  · (refine enterK c_codec_In_number (Nat.le_of_ble_eq_true rfl) fun K hK => ?_; (try simp (maxSteps := 1000000) (disch := first | omega | assumption | exact Nat.le_of_ble_eq_true rfl) only [go_sem, ↓mwp_block, simprocAttr, ir_codec_In_number]))
    refine call_intro (take_bad n S hb hl (by omega)) ?_
    rintro _ h ⟨rfl, S⟩
    (try simp (maxSteps := 1000000) (disch := first | omega | assumption | exact Nat.le_of_ble_eq_true rfl) only [go_sem, ↓mwp_block, simprocAttr])
    refine loop_unroll 1 ?_
    (try simp (maxSteps := 1000000) (disch := first | omega | assumption | exact Nat.le_of_ble_eq_true rfl) only [go_sem, ↓mwp_block, simprocAttr])
    refine hK _ _ ⟨by rw [rdV, if_pos hb], ?_⟩
    have hx : rdX n bs bad = true := by
      rcases hb with rfl | hb
      · rfl
      · simp [rdX, hb]
    rw [rdB, if_pos hb, hx]
    exact S
  · have hbf : bad = false := by cases bad <;> simp_all
    subst hbf
    have hle : n ≤ bs.length := by
      by_cases h : bs.length < n
      · exact absurd (.inr h) hb
      · omega
    have hx : rdX n bs false = false := by simp [rdX]; omega
    have htl : (bs.take n).length = n := by simp; omega
    (refine enterK c_codec_In_number (Nat.le_of_ble_eq_true rfl) fun K hK => ?_; (try simp (maxSteps := 1000000) (disch := first | omega | assumption | exact Nat.le_of_ble_eq_true rfl) only [go_sem, ↓mwp_block, simprocAttr, ir_codec_In_number]))
    refine call_intro (take_ok n S hle hl) ?_
    rintro _ h ⟨A, B, c, rfl, hp, S⟩
    (try simp (maxSteps := 1000000) (disch := first | omega | assumption | exact Nat.le_of_ble_eq_true rfl) only [go_sem, ↓mwp_block, simprocAttr])
    refine loop_intro (fun ρ h' => h' = h ∧ ρ 10 = .slice A n n ∧ ρ 11 = .int .i64 n ∧ ∃ k : Nat, ρ 12 = .int .i64 k ∧ k ≤ n ∧ ρ 5 = .int .u64 (num ((bs.take n).take k))) (fun ρ _ => n - (iv (ρ 12)).toNat) ?_ ?_
    · (try simp (maxSteps := 1000000) (disch := first | omega | assumption | exact Nat.le_of_ble_eq_true rfl) only [go_sem, ↓mwp_block, simprocAttr])
      exact ⟨0, rfl, by omega, rfl⟩
    · rintro ρ h' J hJ ⟨hh, e10, e11, k, e12, hk, e5⟩
      subst hh
      (try simp (maxSteps := 1000000) (disch := first | omega | assumption | exact Nat.le_of_ble_eq_true rfl) only [go_sem, ↓mwp_block, simprocAttr, e11, e12])
      refine cond_dec (fun hg => ?_) (fun hg => ?_)
      · have hk1 : k < (bs.take n).length := by omega
        have ha := S.p1.view (x := (A, bs.take n)) (by simp)
        obtain ⟨b, off, hA, hr⟩ := ha.at hk1
        simp only at hA
        subst hA
        have r1 := rd1_part0 hr (by omega)
        simp only [bEnc, List.getElem?_cons_zero] at r1
        have hnext := num_take_succ (bs.take n) hk1
        obtain ⟨m, hm1, hm2⟩ := numN ((bs.take n).take k)
        rw [List.length_take, htl, Nat.min_eq_left hk] at hm2
        generalize hxx : (bs.take n)[k] = x at r1 hnext
        have hxl := x.toNat_lt
        rw [hm1] at e5 hnext
        have h256 : (256 : Int) ^ k = ((256 ^ k : Nat) : Int) := by simp
        have hw0 : IntKind.u64.wrap (x.toNat : Int) = x.toNat := wrap_u64 (by omega) (by omega)
        have hw1 : IntKind.i64.wrap (8 * (k : Int)) = 8 * k := wrap_i64 (by omega) (by omega)
        have h8 : x.toNat * 256 ^ k < 18446744073709551616 := by
          have h1 : x.toNat * 256 ^ k ≤ 255 * 256 ^ 7 := Nat.mul_le_mul (by omega) (Nat.pow_le_pow_right (by decide) (by omega))
          exact Nat.lt_of_le_of_lt h1 (by decide)
        have hsh : IntKind.u64.wrap ((x.toNat : Int) * 2 ^ (min (8 * (k : Int)).toNat 64)) = ((x.toNat * 256 ^ k : Nat) : Int) := by
          have e : min (8 * (k : Int)).toNat 64 = 8 * k := by omega
          rw [e, Int.pow_mul]
          have e2 : ((x.toNat : Int) * (2 ^ 8) ^ k) = ((x.toNat * 256 ^ k : Nat) : Int) := by simp
          rw [e2, wrap_u64 (by omega) (by omega)]
        have hor := bor64 (v := m) (c := x.toNat) (k := k) hm2 (by omega) (by omega)
        (try simp (maxSteps := 1000000) (disch := first | omega | assumption | exact Nat.le_of_ble_eq_true rfl) only [go_sem, ↓mwp_block, simprocAttr, e10, e12, e5, r1, hw0, hw1, hsh, hor])
        refine hJ _ _ ?_ ?_
        · (try simp (maxSteps := 1000000) (disch := first | omega | assumption | exact Nat.le_of_ble_eq_true rfl) only [go_sem, ↓mwp_block, simprocAttr, e10, e11, e12])
          refine ⟨k + 1, rfl, by omega, ?_⟩
          rw [hnext, h256]
          simp
        · (try simp (maxSteps := 1000000) (disch := first | omega | assumption | exact Nat.le_of_ble_eq_true rfl) only [go_sem, ↓mwp_block, simprocAttr, e12])
          omega
      · obtain rfl : k = n := by omega
        (try simp (maxSteps := 1000000) (disch := first | omega | assumption | exact Nat.le_of_ble_eq_true rfl) only [go_sem, ↓mwp_block, simprocAttr, e5])
        refine hK _ _ ⟨?_, ?_⟩
        · rw [rdV, if_neg (by simp; omega), List.take_take, Nat.min_self]
        · rw [rdB, if_neg (by simp; omega), hx]
          refine inA_open.2 ⟨B, c, hp, ?_⟩
          refine (S.p1.reView (M := [(B, bs.drop k)]) ?_ ?_).p1
          · intro x hx
            simp only [List.mem_cons, List.not_mem_nil, or_false] at hx
            subst hx
            exact S.p1.view (by simp)
          · intro x hx b hb
            simp only [List.mem_cons, List.not_mem_nil, or_false] at hx
            subst hx
            exact ⟨_, by simp, hb⟩
theorem rdV_nn (n : Nat) (bs : List UInt8) (bad : Bool) : 0 ≤ rdV n bs bad ∧ rdV n bs bad < 256 ^ n := by
  unfold rdV
  split
  · exact ⟨Int.le_refl _, Int.pow_pos (by decide)⟩
  · rename_i hb
    have h1 := num_lt (bs.take n)
    have h2 : (bs.take n).length = n := by simp only [not_or] at hb; simp; omega
    rw [h2] at h1
    exact ⟨num_nonneg _, h1⟩
theorem rdB_le (n : Nat) (bs : List UInt8) (bad : Bool) : (rdB n bs bad).length ≤ bs.length := by
  unfold rdB
  split <;> simp
theorem inU8_ok {h0 h : Heap} {l : List HP} {i : Nat} {bs : List UInt8} {bad : Bool} (S : St h0 h (inA i bs bad :: l)) (hl : bs.length < 1000000000) :
    CallsH Try.prog 38 [.pointer (some ⟨i, 0, none⟩)] h fun r h' => r = .int .i64 (rdV 1 bs bad) ∧ St h0 h' (inA i (rdB 1 bs bad) (rdX 1 bs bad) :: l) := by
  have hv := rdV_nn 1 bs bad
  have hw : IntKind.i64.wrap (rdV 1 bs bad) = rdV 1 bs bad := wrap_i64 (by omega) (by simp at hv; omega)
  (refine enterK c_codec_In_U8 (Nat.le_of_ble_eq_true rfl) fun K hK => ?_; (try simp (maxSteps := 1000000) (disch := first | omega | assumption | exact Nat.le_of_ble_eq_true rfl) only [go_sem, ↓mwp_block, simprocAttr, ir_codec_In_U8]))
  refine call_intro (inNumber_ok 1 S (by omega) hl) ?_
  rintro _ h ⟨rfl, S⟩
  (try simp (maxSteps := 1000000) (disch := first | omega | assumption | exact Nat.le_of_ble_eq_true rfl) only [go_sem, ↓mwp_block, simprocAttr, hw])
  exact hK _ _ ⟨rfl, S⟩
theorem inU16_ok {h0 h : Heap} {l : List HP} {i : Nat} {bs : List UInt8} {bad : Bool} (S : St h0 h (inA i bs bad :: l)) (hl : bs.length < 1000000000) :
    CallsH Try.prog 40 [.pointer (some ⟨i, 0, none⟩)] h fun r h' => r = .int .i64 (rdV 2 bs bad) ∧ St h0 h' (inA i (rdB 2 bs bad) (rdX 2 bs bad) :: l) := by
  have hv := rdV_nn 2 bs bad
  have hw : IntKind.i64.wrap (rdV 2 bs bad) = rdV 2 bs bad := wrap_i64 (by omega) (by simp at hv; omega)
  (refine enterK c_codec_In_U16 (Nat.le_of_ble_eq_true rfl) fun K hK => ?_; (try simp (maxSteps := 1000000) (disch := first | omega | assumption | exact Nat.le_of_ble_eq_true rfl) only [go_sem, ↓mwp_block, simprocAttr, ir_codec_In_U16]))
  refine call_intro (inNumber_ok 2 S (by omega) hl) ?_
  rintro _ h ⟨rfl, S⟩
  (try simp (maxSteps := 1000000) (disch := first | omega | assumption | exact Nat.le_of_ble_eq_true rfl) only [go_sem, ↓mwp_block, simprocAttr, hw])
  exact hK _ _ ⟨rfl, S⟩
theorem inU32_ok {h0 h : Heap} {l : List HP} {i : Nat} {bs : List UInt8} {bad : Bool} (S : St h0 h (inA i bs bad :: l)) (hl : bs.length < 1000000000) :
    CallsH Try.prog 68 [.pointer (some ⟨i, 0, none⟩)] h fun r h' => r = .int .i64 (rdV 4 bs bad) ∧ St h0 h' (inA i (rdB 4 bs bad) (rdX 4 bs bad) :: l) := by
  have hv := rdV_nn 4 bs bad
  have hw : IntKind.i64.wrap (rdV 4 bs bad) = rdV 4 bs bad := wrap_i64 (by omega) (by simp at hv; omega)
  (refine enterK c_codec_In_U32 (Nat.le_of_ble_eq_true rfl) fun K hK => ?_; (try simp (maxSteps := 1000000) (disch := first | omega | assumption | exact Nat.le_of_ble_eq_true rfl) only [go_sem, ↓mwp_block, simprocAttr, ir_codec_In_U32]))
  refine call_intro (inNumber_ok 4 S (by omega) hl) ?_
  rintro _ h ⟨rfl, S⟩
  (try simp (maxSteps := 1000000) (disch := first | omega | assumption | exact Nat.le_of_ble_eq_true rfl) only [go_sem, ↓mwp_block, simprocAttr, hw])
  exact hK _ _ ⟨rfl, S⟩
/-- A number that is at most so much; a greater one makes it bad. -/
theorem Most_ok (m : Int) {h0 h : Heap} {l : List HP} {i : Nat} {bs : List UInt8} {bad : Bool} (S : St h0 h (inA i bs bad :: l)) (hl : bs.length < 1000000000) :
    CallsH Try.prog 64 [.pointer (some ⟨i, 0, none⟩), .int .i64 m] h fun r h' => if rdV 2 bs bad > m then r = .int .i64 0 ∧ St h0 h' (inA i [] true :: l) else r = .int .i64 (rdV 2 bs bad) ∧ St h0 h' (inA i (rdB 2 bs bad) (rdX 2 bs bad) :: l) := by
  (refine enterK c_codec_In_Most (Nat.le_of_ble_eq_true rfl) fun K hK => ?_; (try simp (maxSteps := 1000000) (disch := first | omega | assumption | exact Nat.le_of_ble_eq_true rfl) only [go_sem, ↓mwp_block, simprocAttr, ir_codec_In_Most]))
  refine call_intro (inU16_ok S hl) ?_
  rintro _ h ⟨rfl, S⟩
  by_cases hm : rdV 2 bs bad > m
  · (try simp (maxSteps := 1000000) (disch := first | omega | assumption | exact Nat.le_of_ble_eq_true rfl) only [go_sem, ↓mwp_block, simprocAttr])
    refine call_intro (fail_ok S) fun r h S => ?_
    (try simp (maxSteps := 1000000) (disch := first | omega | assumption | exact Nat.le_of_ble_eq_true rfl) only [go_sem, ↓mwp_block, simprocAttr])
    refine hK _ _ ?_
    rw [if_pos hm]
    exact ⟨rfl, S⟩
  · (try simp (maxSteps := 1000000) (disch := first | omega | assumption | exact Nat.le_of_ble_eq_true rfl) only [go_sem, ↓mwp_block, simprocAttr])
    refine hK _ _ ?_
    rw [if_neg hm]
    exact ⟨rfl, S⟩
theorem Done_ok {h0 h : Heap} {l : List HP} {i : Nat} {bs : List UInt8} {bad : Bool} (S : St h0 h (inA i bs bad :: l)) :
    CallsH Try.prog 42 [.pointer (some ⟨i, 0, none⟩)] h fun r h' => r = .bool (dcd (bad = false ∧ bs = [])) ∧ h' = h := by
  obtain ⟨A, c, hp, S⟩ := inA_open.1 S
  (refine enterK c_codec_In_Done (Nat.le_of_ble_eq_true rfl) fun K hK => ?_; (try simp (maxSteps := 1000000) (disch := first | omega | assumption | exact Nat.le_of_ble_eq_true rfl) only [go_sem, ↓mwp_block, simprocAttr, ir_codec_In_Done]))
  ((try clear F); have F := S.all; (try simp only [all_cons, all_nil, says_cell, and_true] at F))
  cases bad
  · by_cases hb : bs.length = 0
    · (try simp (maxSteps := 1000000) (disch := first | omega | assumption | exact Nat.le_of_ble_eq_true rfl) only [go_sem, ↓mwp_block, simprocAttr, F])
      exact hK _ _ ⟨by rw [dcd_true]; exact ⟨rfl, List.eq_nil_of_length_eq_zero hb⟩, rfl⟩
    · (try simp (maxSteps := 1000000) (disch := first | omega | assumption | exact Nat.le_of_ble_eq_true rfl) only [go_sem, ↓mwp_block, simprocAttr, F])
      exact hK _ _ ⟨by rw [dcd_false]; rintro ⟨_, rfl⟩; exact hb rfl, rfl⟩
  · (try simp (maxSteps := 1000000) (disch := first | omega | assumption | exact Nat.le_of_ble_eq_true rfl) only [go_sem, ↓mwp_block, simprocAttr, F])
    exact hK _ _ ⟨by rw [dcd_false]; exact fun h => Bool.noConfusion h.1, rfl⟩
theorem NewIn_ok {h0 h : Heap} {l : List HP} {A : Option Addr} {c : Nat} {bs : List UInt8} (S : St h0 h l) (ha : Arr bEnc 1 h A bs) (hA : A = none → bs = []) (hl : bs.length < 100000000) :
    CallsH Try.prog 35 [.slice A bs.length c] h fun r h' => ∃ i, r = .pointer (some ⟨i, 0, none⟩) ∧ St h0 h' (inA i bs false :: l) := by
  (refine enterK c_codec_NewIn (Nat.le_of_ble_eq_true rfl) fun K hK => ?_; (try simp (maxSteps := 1000000) (disch := first | omega | assumption | exact Nat.le_of_ble_eq_true rfl) only [go_sem, ↓mwp_block, simprocAttr, ir_codec_NewIn]))
  refine call_intro (CloneB_ok S ha rfl hA (by omega)) ?_
  rintro v h ⟨S, _⟩
  obtain ⟨B, d, rfl⟩ := S.sl
  (try simp (maxSteps := 1000000) (disch := first | omega | assumption | exact Nat.le_of_ble_eq_true rfl) only [go_sem, ↓mwp_block, simprocAttr])
  (refine st_alloc S ?_; clear S; intro i h S; (try simp only [splice_cons, splice_nil, List.set_cons_zero, List.set_cons_succ, Nat.zero_add, Nat.reduceAdd, List.cons_append, List.nil_append] at S); ((try clear F); have F := S.all; (try simp only [all_cons, all_nil, says_cell, and_true] at F)))
  (try simp (maxSteps := 1000000) (disch := first | omega | assumption | exact Nat.le_of_ble_eq_true rfl) only [go_sem, ↓mwp_block, simprocAttr])
  refine hK _ _ ⟨i, rfl, inA_open.2 ⟨B, d, ?_, ?_⟩⟩
  · have ho := S.p1.own
    rcases ho with ⟨hv, rfl⟩ | ⟨b, cap, cs, hv, _, hle, h63, _⟩
    · injection hv with e1 e2 e3
      subst e1 e3
      exact ⟨by simp, by decide, by simp⟩
    · injection hv with e1 e2 e3
      subst e1 e3
      exact ⟨hle, h63, by intro a ha; cases ha; rfl⟩
  · obtain ⟨C, hp, _, hup⟩ := S.p1.hd
    have harr := S.p1.arr bEnc_len
    refine (hup h (viewsA [(B, bs)]) ([(B, bs)].flatMap vBlk) (Fr.refl _ _) ⟨by intro x hx; simp at hx; subst hx; exact harr, rfl⟩ ?_).p1
    intro b hb
    refine .inl ?_
    rw [hp.1]
    simp only [List.flatMap_cons, List.flatMap_nil, List.append_nil, vBlk] at hb
    split at hb
    · cases hb
    · cases B with
      | none => cases hb
      | some a => simpa [blkOf] using hb
end Go.Proofs.Ytblalmgahfbalaa.MX

/- One policy read. -/
namespace Go.Proofs.Ytblalmgahfbalaa.MX
open Go Go.Proofs
set_option linter.unusedSimpArgs false
set_option linter.unusedVariables false

/-- What is left behind a reading. -/
def stp (n : Nat) (q : List UInt8 × Bool) : List UInt8 × Bool := (rdB n q.1 q.2, rdX n q.1 q.2)
def vl (n : Nat) (q : List UInt8 × Bool) : Int := rdV n q.1 q.2
def fb (m : Nat) (n : Int) : Bool := !decide ((n.toNat &&& m) = 0)
def q1 (q : List UInt8 × Bool) := stp 2 q
def q2 (q : List UInt8 × Bool) := stp 1 (q1 q)
def q3 (q : List UInt8 × Bool) := stp 2 (q2 q)
def q4 (q : List UInt8 × Bool) := stp 2 (q3 q)
def q5 (q : List UInt8 × Bool) := stp 2 (q4 q)
def q6 (q : List UInt8 × Bool) := stp 2 (q5 q)
def q7 (q : List UInt8 × Bool) := stp 2 (q6 q)
def q8 (q : List UInt8 × Bool) := stp 1 (q7 q)
def q9 (q : List UInt8 × Bool) := stp 2 (q8 q)
def q10 (q : List UInt8 × Bool) := stp 1 (q9 q)
def q11 (q : List UInt8 × Bool) := stp 2 (q10 q)
def q12 (q : List UInt8 × Bool) := stp 1 (q11 q)
def q13 (q : List UInt8 × Bool) := stp 2 (q12 q)
def q14 (q : List UInt8 × Bool) := stp 1 (q13 q)
def polR (q : List UInt8 × Bool) : Pol := ⟨vl 2 q, fb 1 (vl 1 (q1 q)), fb 2 (vl 1 (q1 q)), fb 4 (vl 1 (q1 q)), vl 2 (q2 q), vl 2 (q3 q), vl 2 (q4 q), vl 2 (q5 q), vl 2 (q6 q), vl 1 (q7 q), vl 2 (q8 q), vl 1 (q9 q), vl 2 (q10 q), vl 1 (q11 q), vl 2 (q12 q), vl 1 (q13 q)⟩

theorem band64 {n : Int} {m : Nat} (h0 : 0 ≤ n) (h1 : n < 256) (hm : m < 256) : binV .and (.int .i64 n) (.int .i64 (m : Int)) = some (.int .i64 ((n.toNat &&& m : Nat) : Int)) := by
  have e1 : (BitVec.ofInt IntKind.i64.bits n).toNat = n.toNat := by
    rw [BitVec.toNat_ofInt]
    have : ((2 ^ IntKind.i64.bits : Nat) : Int) = 18446744073709551616 := rfl
    rw [this, Int.emod_eq_of_lt h0 (by omega)]
  have e2 : (BitVec.ofInt IntKind.i64.bits (m : Int)).toNat = m := by
    rw [BitVec.toNat_ofInt]
    have : ((2 ^ IntKind.i64.bits : Nat) : Int) = 18446744073709551616 := rfl
    rw [this, Int.emod_eq_of_lt (by omega) (by omega)]
    rfl
  have h2 : n.toNat &&& m ≤ m := Nat.and_le_right
  rw [bin_and, BitVec.toNat_and, e1, e2, wrap_i64 (by omega) (by omega)]
theorem fb_dcd (m : Nat) (n : Int) : (!dcd (((n.toNat &&& m : Nat) : Int) = 0)) = fb m n := by
  unfold fb
  by_cases h : (n.toNat &&& m) = 0
  · rw [dcd_true (by omega), decide_eq_true h]
  · rw [dcd_false (by omega), decide_eq_false h]

theorem stp_len (n : Nat) (q : List UInt8 × Bool) : (stp n q).1.length ≤ q.1.length := rdB_le n q.1 q.2
theorem rd16 {h0 h : Heap} {l : List HP} {i : Nat} {q : List UInt8 × Bool} (S : St h0 h (inA i q.1 q.2 :: l)) (hl : q.1.length < 1000000000) :
    CallsH Try.prog 40 [.pointer (some ⟨i, 0, none⟩)] h fun r h' => r = .int .i64 (vl 2 q) ∧ St h0 h' (inA i (stp 2 q).1 (stp 2 q).2 :: l) := inU16_ok S hl
theorem rd8 {h0 h : Heap} {l : List HP} {i : Nat} {q : List UInt8 × Bool} (S : St h0 h (inA i q.1 q.2 :: l)) (hl : q.1.length < 1000000000) :
    CallsH Try.prog 38 [.pointer (some ⟨i, 0, none⟩)] h fun r h' => r = .int .i64 (vl 1 q) ∧ St h0 h' (inA i (stp 1 q).1 (stp 1 q).2 :: l) := inU8_ok S hl

set_option maxRecDepth 20000 in
set_option maxHeartbeats 8000000 in
theorem policy_ok {h0 h : Heap} {l : List HP} {i : Nat} {q : List UInt8 × Bool} (S : St h0 h (inA i q.1 q.2 :: l)) (hl : q.1.length < 1000000000) :
    CallsH Try.prog 65 [.pointer (some ⟨i, 0, none⟩)] h fun r h' => r = .tuple #[.agg (polR q).enc.toArray, .bool (dcd (vl 1 (q1 q) ≤ 7))] ∧ St h0 h' (inA i (q14 q).1 (q14 q).2 :: l) := by
  have l1 := stp_len 2 q
  have l2 := stp_len 1 (q1 q)
  have l3 := stp_len 2 (q2 q)
  have l4 := stp_len 2 (q3 q)
  have l5 := stp_len 2 (q4 q)
  have l6 := stp_len 2 (q5 q)
  have l7 := stp_len 2 (q6 q)
  have l8 := stp_len 1 (q7 q)
  have l9 := stp_len 2 (q8 q)
  have l10 := stp_len 1 (q9 q)
  have l11 := stp_len 2 (q10 q)
  have l12 := stp_len 1 (q11 q)
  have l13 := stp_len 2 (q12 q)
  change (q1 q).1.length ≤ _ at l1
  change (q2 q).1.length ≤ _ at l2
  change (q3 q).1.length ≤ _ at l3
  change (q4 q).1.length ≤ _ at l4
  change (q5 q).1.length ≤ _ at l5
  change (q6 q).1.length ≤ _ at l6
  change (q7 q).1.length ≤ _ at l7
  change (q8 q).1.length ≤ _ at l8
  change (q9 q).1.length ≤ _ at l9
  change (q10 q).1.length ≤ _ at l10
  change (q11 q).1.length ≤ _ at l11
  change (q12 q).1.length ≤ _ at l12
  change (q13 q).1.length ≤ _ at l13
  have hfl : 0 ≤ vl 1 (q1 q) ∧ vl 1 (q1 q) < 256 := by have := rdV_nn 1 (q1 q).1 (q1 q).2; simpa [vl] using this
  have b1 := band64 (m := 1) hfl.1 hfl.2 (by decide)
  have b2 := band64 (m := 2) hfl.1 hfl.2 (by decide)
  have b4 := band64 (m := 4) hfl.1 hfl.2 (by decide)
  have c1 : ((1 : Nat) : Int) = 1 := rfl
  have c2 : ((2 : Nat) : Int) = 2 := rfl
  have c4 : ((4 : Nat) : Int) = 4 := rfl
  rw [c1] at b1
  rw [c2] at b2
  rw [c4] at b4
  (refine enterK c_table_policy (Nat.le_of_ble_eq_true rfl) fun K hK => ?_; (try simp (maxSteps := 1000000) (disch := first | omega | assumption | exact Nat.le_of_ble_eq_true rfl) only [go_sem, ↓mwp_block, simprocAttr, ir_table_policy]))
  (refine st_alloc S ?_; clear S; intro a h S; (try simp only [splice_cons, splice_nil, List.set_cons_zero, List.set_cons_succ, Nat.zero_add, Nat.reduceAdd, List.cons_append, List.nil_append] at S); ((try clear F); have F := S.all; (try simp only [all_cons, all_nil, says_cell, and_true] at F)))
  (try simp (maxSteps := 1000000) (disch := first | omega | assumption | exact Nat.le_of_ble_eq_true rfl) only [go_sem, ↓mwp_block, simprocAttr])
  refine call_intro (rd16 S.p1 hl) ?_
  rintro _ h ⟨rfl, S⟩
  change St _ _ (inA i (q1 q).1 (q1 q).2 :: _) at S
  (try simp (maxSteps := 1000000) (disch := first | omega | assumption | exact Nat.le_of_ble_eq_true rfl) only [go_sem, ↓mwp_block, simprocAttr])
  (refine st_alloc S ?_; clear S; intro g h S; (try simp only [splice_cons, splice_nil, List.set_cons_zero, List.set_cons_succ, Nat.zero_add, Nat.reduceAdd, List.cons_append, List.nil_append] at S); ((try clear F); have F := S.all; (try simp only [all_cons, all_nil, says_cell, and_true] at F)))
  (try simp (maxSteps := 1000000) (disch := first | omega | assumption | exact Nat.le_of_ble_eq_true rfl) only [go_sem, ↓mwp_block, simprocAttr])
  (refine st_store (by first | exact S | exact S.p1 | exact S.p2 | exact S.p3 | exact S.p4 | exact S.p5 | exact S.p6 | exact S.p7 | exact S.p8 | exact S.p9 | exact S.p10 | exact S.p11) (by rfl) (by rfl) (Nat.le_of_ble_eq_true rfl) ?_; clear S; intro h S; (try simp only [splice_cons, splice_nil, List.set_cons_zero, List.set_cons_succ, Nat.zero_add, Nat.reduceAdd, List.cons_append, List.nil_append] at S); ((try clear F); have F := S.all; (try simp only [all_cons, all_nil, says_cell, and_true] at F)))
  (try simp (maxSteps := 1000000) (disch := first | omega | assumption | exact Nat.le_of_ble_eq_true rfl) only [go_sem, ↓mwp_block, simprocAttr])
  refine call_intro (rd8 (q := q1 q) (by first | exact S | exact S.p1 | exact S.p2 | exact S.p3 | exact S.p4 | exact S.p5 | exact S.p6 | exact S.p7 | exact S.p8 | exact S.p9 | exact S.p10 | exact S.p11) (by omega)) ?_
  rintro _ h ⟨rfl, S⟩
  change St _ _ (inA i (q2 q).1 (q2 q).2 :: _) at S
  ((try clear F); have F := S.all; (try simp only [all_cons, all_nil, says_cell, and_true] at F))
  (try simp (maxSteps := 1000000) (disch := first | omega | assumption | exact Nat.le_of_ble_eq_true rfl) only [go_sem, ↓mwp_block, simprocAttr, b1, b2, b4, fb_dcd])
  (refine st_store (by first | exact S | exact S.p1 | exact S.p2 | exact S.p3 | exact S.p4 | exact S.p5 | exact S.p6 | exact S.p7 | exact S.p8 | exact S.p9 | exact S.p10 | exact S.p11) (by rfl) (by rfl) (Nat.le_of_ble_eq_true rfl) ?_; clear S; intro h S; (try simp only [splice_cons, splice_nil, List.set_cons_zero, List.set_cons_succ, Nat.zero_add, Nat.reduceAdd, List.cons_append, List.nil_append] at S); ((try clear F); have F := S.all; (try simp only [all_cons, all_nil, says_cell, and_true] at F)))
  (try simp (maxSteps := 1000000) (disch := first | omega | assumption | exact Nat.le_of_ble_eq_true rfl) only [go_sem, ↓mwp_block, simprocAttr])
  (refine st_store (by first | exact S | exact S.p1 | exact S.p2 | exact S.p3 | exact S.p4 | exact S.p5 | exact S.p6 | exact S.p7 | exact S.p8 | exact S.p9 | exact S.p10 | exact S.p11) (by rfl) (by rfl) (Nat.le_of_ble_eq_true rfl) ?_; clear S; intro h S; (try simp only [splice_cons, splice_nil, List.set_cons_zero, List.set_cons_succ, Nat.zero_add, Nat.reduceAdd, List.cons_append, List.nil_append] at S); ((try clear F); have F := S.all; (try simp only [all_cons, all_nil, says_cell, and_true] at F)))
  (try simp (maxSteps := 1000000) (disch := first | omega | assumption | exact Nat.le_of_ble_eq_true rfl) only [go_sem, ↓mwp_block, simprocAttr])
  (refine st_store (by first | exact S | exact S.p1 | exact S.p2 | exact S.p3 | exact S.p4 | exact S.p5 | exact S.p6 | exact S.p7 | exact S.p8 | exact S.p9 | exact S.p10 | exact S.p11) (by rfl) (by rfl) (Nat.le_of_ble_eq_true rfl) ?_; clear S; intro h S; (try simp only [splice_cons, splice_nil, List.set_cons_zero, List.set_cons_succ, Nat.zero_add, Nat.reduceAdd, List.cons_append, List.nil_append] at S); ((try clear F); have F := S.all; (try simp only [all_cons, all_nil, says_cell, and_true] at F)))
  (try simp (maxSteps := 1000000) (disch := first | omega | assumption | exact Nat.le_of_ble_eq_true rfl) only [go_sem, ↓mwp_block, simprocAttr])
  refine loop_unroll 5 ?_
  (try simp (maxSteps := 1000000) (disch := first | omega | assumption | exact Nat.le_of_ble_eq_true rfl) only [go_sem, ↓mwp_block, simprocAttr])
  refine call_intro (rd16 (q := q2 q) (by first | exact S | exact S.p1 | exact S.p2 | exact S.p3 | exact S.p4 | exact S.p5 | exact S.p6 | exact S.p7 | exact S.p8 | exact S.p9 | exact S.p10 | exact S.p11) (by omega)) ?_
  rintro _ h ⟨rfl, S⟩
  change St _ _ (inA i (q3 q).1 (q3 q).2 :: _) at S
  (try simp (maxSteps := 1000000) (disch := first | omega | assumption | exact Nat.le_of_ble_eq_true rfl) only [go_sem, ↓mwp_block, simprocAttr])
  (refine st_store (by first | exact S | exact S.p1 | exact S.p2 | exact S.p3 | exact S.p4 | exact S.p5 | exact S.p6 | exact S.p7 | exact S.p8 | exact S.p9 | exact S.p10 | exact S.p11) (by rfl) (by rfl) (Nat.le_of_ble_eq_true rfl) ?_; clear S; intro h S; (try simp only [splice_cons, splice_nil, List.set_cons_zero, List.set_cons_succ, Nat.zero_add, Nat.reduceAdd, List.cons_append, List.nil_append] at S); ((try clear F); have F := S.all; (try simp only [all_cons, all_nil, says_cell, and_true] at F)))
  (try simp (maxSteps := 1000000) (disch := first | omega | assumption | exact Nat.le_of_ble_eq_true rfl) only [go_sem, ↓mwp_block, simprocAttr])
  refine call_intro (rd16 (q := q3 q) (by first | exact S | exact S.p1 | exact S.p2 | exact S.p3 | exact S.p4 | exact S.p5 | exact S.p6 | exact S.p7 | exact S.p8 | exact S.p9 | exact S.p10 | exact S.p11) (by omega)) ?_
  rintro _ h ⟨rfl, S⟩
  change St _ _ (inA i (q4 q).1 (q4 q).2 :: _) at S
  (try simp (maxSteps := 1000000) (disch := first | omega | assumption | exact Nat.le_of_ble_eq_true rfl) only [go_sem, ↓mwp_block, simprocAttr])
  (refine st_store (by first | exact S | exact S.p1 | exact S.p2 | exact S.p3 | exact S.p4 | exact S.p5 | exact S.p6 | exact S.p7 | exact S.p8 | exact S.p9 | exact S.p10 | exact S.p11) (by rfl) (by rfl) (Nat.le_of_ble_eq_true rfl) ?_; clear S; intro h S; (try simp only [splice_cons, splice_nil, List.set_cons_zero, List.set_cons_succ, Nat.zero_add, Nat.reduceAdd, List.cons_append, List.nil_append] at S); ((try clear F); have F := S.all; (try simp only [all_cons, all_nil, says_cell, and_true] at F)))
  (try simp (maxSteps := 1000000) (disch := first | omega | assumption | exact Nat.le_of_ble_eq_true rfl) only [go_sem, ↓mwp_block, simprocAttr])
  refine call_intro (rd16 (q := q4 q) (by first | exact S | exact S.p1 | exact S.p2 | exact S.p3 | exact S.p4 | exact S.p5 | exact S.p6 | exact S.p7 | exact S.p8 | exact S.p9 | exact S.p10 | exact S.p11) (by omega)) ?_
  rintro _ h ⟨rfl, S⟩
  change St _ _ (inA i (q5 q).1 (q5 q).2 :: _) at S
  (try simp (maxSteps := 1000000) (disch := first | omega | assumption | exact Nat.le_of_ble_eq_true rfl) only [go_sem, ↓mwp_block, simprocAttr])
  (refine st_store (by first | exact S | exact S.p1 | exact S.p2 | exact S.p3 | exact S.p4 | exact S.p5 | exact S.p6 | exact S.p7 | exact S.p8 | exact S.p9 | exact S.p10 | exact S.p11) (by rfl) (by rfl) (Nat.le_of_ble_eq_true rfl) ?_; clear S; intro h S; (try simp only [splice_cons, splice_nil, List.set_cons_zero, List.set_cons_succ, Nat.zero_add, Nat.reduceAdd, List.cons_append, List.nil_append] at S); ((try clear F); have F := S.all; (try simp only [all_cons, all_nil, says_cell, and_true] at F)))
  (try simp (maxSteps := 1000000) (disch := first | omega | assumption | exact Nat.le_of_ble_eq_true rfl) only [go_sem, ↓mwp_block, simprocAttr])
  refine call_intro (rd16 (q := q5 q) (by first | exact S | exact S.p1 | exact S.p2 | exact S.p3 | exact S.p4 | exact S.p5 | exact S.p6 | exact S.p7 | exact S.p8 | exact S.p9 | exact S.p10 | exact S.p11) (by omega)) ?_
  rintro _ h ⟨rfl, S⟩
  change St _ _ (inA i (q6 q).1 (q6 q).2 :: _) at S
  (try simp (maxSteps := 1000000) (disch := first | omega | assumption | exact Nat.le_of_ble_eq_true rfl) only [go_sem, ↓mwp_block, simprocAttr])
  (refine st_store (by first | exact S | exact S.p1 | exact S.p2 | exact S.p3 | exact S.p4 | exact S.p5 | exact S.p6 | exact S.p7 | exact S.p8 | exact S.p9 | exact S.p10 | exact S.p11) (by rfl) (by rfl) (Nat.le_of_ble_eq_true rfl) ?_; clear S; intro h S; (try simp only [splice_cons, splice_nil, List.set_cons_zero, List.set_cons_succ, Nat.zero_add, Nat.reduceAdd, List.cons_append, List.nil_append] at S); ((try clear F); have F := S.all; (try simp only [all_cons, all_nil, says_cell, and_true] at F)))
  (try simp (maxSteps := 1000000) (disch := first | omega | assumption | exact Nat.le_of_ble_eq_true rfl) only [go_sem, ↓mwp_block, simprocAttr])
  refine loop_unroll 5 ?_
  (try simp (maxSteps := 1000000) (disch := first | omega | assumption | exact Nat.le_of_ble_eq_true rfl) only [go_sem, ↓mwp_block, simprocAttr])
  refine call_intro (rd16 (q := q6 q) (by first | exact S | exact S.p1 | exact S.p2 | exact S.p3 | exact S.p4 | exact S.p5 | exact S.p6 | exact S.p7 | exact S.p8 | exact S.p9 | exact S.p10 | exact S.p11) (by omega)) ?_
  rintro _ h ⟨rfl, S⟩
  change St _ _ (inA i (q7 q).1 (q7 q).2 :: _) at S
  (try simp (maxSteps := 1000000) (disch := first | omega | assumption | exact Nat.le_of_ble_eq_true rfl) only [go_sem, ↓mwp_block, simprocAttr])
  refine call_intro (rd8 (q := q7 q) (by first | exact S | exact S.p1 | exact S.p2 | exact S.p3 | exact S.p4 | exact S.p5 | exact S.p6 | exact S.p7 | exact S.p8 | exact S.p9 | exact S.p10 | exact S.p11) (by omega)) ?_
  rintro _ h ⟨rfl, S⟩
  change St _ _ (inA i (q8 q).1 (q8 q).2 :: _) at S
  (try simp (maxSteps := 1000000) (disch := first | omega | assumption | exact Nat.le_of_ble_eq_true rfl) only [go_sem, ↓mwp_block, simprocAttr])
  (refine st_store (by first | exact S | exact S.p1 | exact S.p2 | exact S.p3 | exact S.p4 | exact S.p5 | exact S.p6 | exact S.p7 | exact S.p8 | exact S.p9 | exact S.p10 | exact S.p11) (by rfl) (by rfl) (Nat.le_of_ble_eq_true rfl) ?_; clear S; intro h S; (try simp only [splice_cons, splice_nil, List.set_cons_zero, List.set_cons_succ, Nat.zero_add, Nat.reduceAdd, List.cons_append, List.nil_append] at S); ((try clear F); have F := S.all; (try simp only [all_cons, all_nil, says_cell, and_true] at F)))
  (try simp (maxSteps := 1000000) (disch := first | omega | assumption | exact Nat.le_of_ble_eq_true rfl) only [go_sem, ↓mwp_block, simprocAttr])
  refine call_intro (rd16 (q := q8 q) (by first | exact S | exact S.p1 | exact S.p2 | exact S.p3 | exact S.p4 | exact S.p5 | exact S.p6 | exact S.p7 | exact S.p8 | exact S.p9 | exact S.p10 | exact S.p11) (by omega)) ?_
  rintro _ h ⟨rfl, S⟩
  change St _ _ (inA i (q9 q).1 (q9 q).2 :: _) at S
  (try simp (maxSteps := 1000000) (disch := first | omega | assumption | exact Nat.le_of_ble_eq_true rfl) only [go_sem, ↓mwp_block, simprocAttr])
  refine call_intro (rd8 (q := q9 q) (by first | exact S | exact S.p1 | exact S.p2 | exact S.p3 | exact S.p4 | exact S.p5 | exact S.p6 | exact S.p7 | exact S.p8 | exact S.p9 | exact S.p10 | exact S.p11) (by omega)) ?_
  rintro _ h ⟨rfl, S⟩
  change St _ _ (inA i (q10 q).1 (q10 q).2 :: _) at S
  (try simp (maxSteps := 1000000) (disch := first | omega | assumption | exact Nat.le_of_ble_eq_true rfl) only [go_sem, ↓mwp_block, simprocAttr])
  (refine st_store (by first | exact S | exact S.p1 | exact S.p2 | exact S.p3 | exact S.p4 | exact S.p5 | exact S.p6 | exact S.p7 | exact S.p8 | exact S.p9 | exact S.p10 | exact S.p11) (by rfl) (by rfl) (Nat.le_of_ble_eq_true rfl) ?_; clear S; intro h S; (try simp only [splice_cons, splice_nil, List.set_cons_zero, List.set_cons_succ, Nat.zero_add, Nat.reduceAdd, List.cons_append, List.nil_append] at S); ((try clear F); have F := S.all; (try simp only [all_cons, all_nil, says_cell, and_true] at F)))
  (try simp (maxSteps := 1000000) (disch := first | omega | assumption | exact Nat.le_of_ble_eq_true rfl) only [go_sem, ↓mwp_block, simprocAttr])
  refine call_intro (rd16 (q := q10 q) (by first | exact S | exact S.p1 | exact S.p2 | exact S.p3 | exact S.p4 | exact S.p5 | exact S.p6 | exact S.p7 | exact S.p8 | exact S.p9 | exact S.p10 | exact S.p11) (by omega)) ?_
  rintro _ h ⟨rfl, S⟩
  change St _ _ (inA i (q11 q).1 (q11 q).2 :: _) at S
  (try simp (maxSteps := 1000000) (disch := first | omega | assumption | exact Nat.le_of_ble_eq_true rfl) only [go_sem, ↓mwp_block, simprocAttr])
  refine call_intro (rd8 (q := q11 q) (by first | exact S | exact S.p1 | exact S.p2 | exact S.p3 | exact S.p4 | exact S.p5 | exact S.p6 | exact S.p7 | exact S.p8 | exact S.p9 | exact S.p10 | exact S.p11) (by omega)) ?_
  rintro _ h ⟨rfl, S⟩
  change St _ _ (inA i (q12 q).1 (q12 q).2 :: _) at S
  (try simp (maxSteps := 1000000) (disch := first | omega | assumption | exact Nat.le_of_ble_eq_true rfl) only [go_sem, ↓mwp_block, simprocAttr])
  (refine st_store (by first | exact S | exact S.p1 | exact S.p2 | exact S.p3 | exact S.p4 | exact S.p5 | exact S.p6 | exact S.p7 | exact S.p8 | exact S.p9 | exact S.p10 | exact S.p11) (by rfl) (by rfl) (Nat.le_of_ble_eq_true rfl) ?_; clear S; intro h S; (try simp only [splice_cons, splice_nil, List.set_cons_zero, List.set_cons_succ, Nat.zero_add, Nat.reduceAdd, List.cons_append, List.nil_append] at S); ((try clear F); have F := S.all; (try simp only [all_cons, all_nil, says_cell, and_true] at F)))
  (try simp (maxSteps := 1000000) (disch := first | omega | assumption | exact Nat.le_of_ble_eq_true rfl) only [go_sem, ↓mwp_block, simprocAttr])
  refine call_intro (rd16 (q := q12 q) (by first | exact S | exact S.p1 | exact S.p2 | exact S.p3 | exact S.p4 | exact S.p5 | exact S.p6 | exact S.p7 | exact S.p8 | exact S.p9 | exact S.p10 | exact S.p11) (by omega)) ?_
  rintro _ h ⟨rfl, S⟩
  change St _ _ (inA i (q13 q).1 (q13 q).2 :: _) at S
  (try simp (maxSteps := 1000000) (disch := first | omega | assumption | exact Nat.le_of_ble_eq_true rfl) only [go_sem, ↓mwp_block, simprocAttr])
  refine call_intro (rd8 (q := q13 q) (by first | exact S | exact S.p1 | exact S.p2 | exact S.p3 | exact S.p4 | exact S.p5 | exact S.p6 | exact S.p7 | exact S.p8 | exact S.p9 | exact S.p10 | exact S.p11) (by omega)) ?_
  rintro _ h ⟨rfl, S⟩
  change St _ _ (inA i (q14 q).1 (q14 q).2 :: _) at S
  (try simp (maxSteps := 1000000) (disch := first | omega | assumption | exact Nat.le_of_ble_eq_true rfl) only [go_sem, ↓mwp_block, simprocAttr])
  (refine st_store (by first | exact S | exact S.p1 | exact S.p2 | exact S.p3 | exact S.p4 | exact S.p5 | exact S.p6 | exact S.p7 | exact S.p8 | exact S.p9 | exact S.p10 | exact S.p11) (by rfl) (by rfl) (Nat.le_of_ble_eq_true rfl) ?_; clear S; intro h S; (try simp only [splice_cons, splice_nil, List.set_cons_zero, List.set_cons_succ, Nat.zero_add, Nat.reduceAdd, List.cons_append, List.nil_append] at S); ((try clear F); have F := S.all; (try simp only [all_cons, all_nil, says_cell, and_true] at F)))
  (try simp (maxSteps := 1000000) (disch := first | omega | assumption | exact Nat.le_of_ble_eq_true rfl) only [go_sem, ↓mwp_block, simprocAttr, F])
  (refine st_store (by first | exact S | exact S.p1 | exact S.p2 | exact S.p3 | exact S.p4 | exact S.p5 | exact S.p6 | exact S.p7 | exact S.p8 | exact S.p9 | exact S.p10 | exact S.p11) (by rfl) (by rfl) (Nat.le_of_ble_eq_true rfl) ?_; clear S; intro h S; (try simp only [splice_cons, splice_nil, List.set_cons_zero, List.set_cons_succ, Nat.zero_add, Nat.reduceAdd, List.cons_append, List.nil_append] at S); ((try clear F); have F := S.all; (try simp only [all_cons, all_nil, says_cell, and_true] at F)))
  (try simp (maxSteps := 1000000) (disch := first | omega | assumption | exact Nat.le_of_ble_eq_true rfl) only [go_sem, ↓mwp_block, simprocAttr, F])
  refine hK _ _ ⟨rfl, ?_⟩
  exact S.tl.tl
end Go.Proofs.Ytblalmgahfbalaa.MX
