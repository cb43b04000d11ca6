/- What is read: numbers and bytes taken one behind the other (codec.In). -/
import Derived.Test.YtackopkhelochaaCd1
namespace Go.Proofs.Ytackopkhelochaa.MX
open Go Go.Proofs
set_option linter.unusedSimpArgs false
set_option linter.unusedVariables false

/-- Bytes that can be read at some places. -/
def vBlk (x : Option Addr × List UInt8) : List Nat := if x.2 = [] then [] else match x.1 with | some a => [a.block] | none => []
def viewsA (L : List (Option Addr × List UInt8)) : HP where
  P h B := (∀ x ∈ L, Arr bEnc 1 h x.1 x.2) ∧ B = L.flatMap vBlk
  loc := fun {h h' B} ⟨ha, hb⟩ hk => ⟨fun x hx => (ha x hx).keep fun b off hA hne => by
    have : b ∈ B := by
      rw [hb]
      refine List.mem_flatMap.2 ⟨x, hx, ?_⟩
      simp only [vBlk, if_neg hne, hA, List.mem_singleton]
    simp only [blk, hk b this], hb⟩
  lt := fun {h B} ⟨ha, hb⟩ b hm => by
    rw [hb] at hm
    obtain ⟨x, hx, hm⟩ := List.mem_flatMap.1 hm
    unfold vBlk at hm
    split at hm
    · cases hm
    · rename_i hne
      split at hm
      · rename_i a hA
        simp only [List.mem_singleton] at hm
        obtain ⟨b', off', hA', hr⟩ := ha x hx 0 (List.length_pos_iff.2 hne)
        rw [hA] at hA'
        cases hA'
        subst hm
        exact rdN_lt hr
      · cases hm
theorem St.view {h0 h : Heap} {l : List HP} {L : List (Option Addr × List UInt8)} (S : St h0 h (viewsA L :: l)) {x : Option Addr × List UInt8} (hx : x ∈ L) : Arr bEnc 1 h x.1 x.2 := by
  obtain ⟨B, hp, _⟩ := S.hd
  exact hp.1 x hx
theorem St.reView {h0 h : Heap} {l : List HP} {L M : List (Option Addr × List UInt8)} (S : St h0 h (viewsA L :: l)) (ha : ∀ x ∈ M, Arr bEnc 1 h x.1 x.2) (hs : ∀ x ∈ M, ∀ b ∈ vBlk x, ∃ y ∈ L, b ∈ vBlk y) : St h0 h (viewsA M :: l) := by
  obtain ⟨B, hp, _, hup⟩ := S.hd
  refine hup h _ (M.flatMap vBlk) (Fr.refl _ _) ⟨ha, rfl⟩ fun b hm => .inl ?_
  obtain ⟨x, hx, hb⟩ := List.mem_flatMap.1 hm
  obtain ⟨y, hy, hb'⟩ := hs x hx b hb
  rw [hp.2]
  exact List.mem_flatMap.2 ⟨y, hy, hb'⟩
theorem arr_take {h : Heap} {A : Option Addr} {xs : List UInt8} (ha : Arr bEnc 1 h A xs) (n : Nat) : Arr bEnc 1 h A (xs.take n) := by
  intro i hi
  obtain ⟨b, off, hA, hr⟩ := ha i (by simp at hi; omega)
  exact ⟨b, off, hA, by rw [hr, List.getElem_take]⟩
theorem arr_drop {h : Heap} {b off : Nat} {xs : List UInt8} (ha : Arr bEnc 1 h (some ⟨b, off, none⟩) xs) (n : Nat) : Arr bEnc 1 h (some ⟨b, off + n, none⟩) (xs.drop n) := by
  intro i hi
  obtain ⟨b', off', hA, hr⟩ := ha (n + i) (by simp at hi; omega)
  cases hA
  refine ⟨b, off + n, rfl, ?_⟩
  rw [List.getElem_drop, ← hr]
  congr 1
  omega

def inA (i : Nat) (bs : List UInt8) (bad : Bool) : HP := exA fun s : Option Addr × Nat => starsA [cellA i [.slice s.1 bs.length s.2, .bool bad] 123, pureA (bs.length ≤ s.2 ∧ s.2 < 9223372036854775808 ∧ ∀ a, s.1 = some a → a.spot = none), viewsA [(s.1, bs)]]
theorem inA_open {h0 h : Heap} {l : List HP} {i : Nat} {bs : List UInt8} {bad : Bool} : St h0 h (inA i bs bad :: l) ↔ ∃ A c, (bs.length ≤ c ∧ c < 9223372036854775808 ∧ ∀ a : Addr, A = some a → a.spot = none) ∧ St h0 h (cellA i [.slice A bs.length c, .bool bad] 123 :: viewsA [(A, bs)] :: l) := by
  refine St.ex.trans ⟨?_, ?_⟩
  · rintro ⟨⟨A, c⟩, S⟩
    have S := St.stars.1 S
    have S := S.p1
    obtain ⟨hp, S⟩ := St.pure.1 S
    exact ⟨A, c, hp, S⟩
  · rintro ⟨A, c, hp, S⟩
    refine ⟨(A, c), St.stars.2 ?_⟩
    exact (St.pure.2 ⟨hp, S⟩).p1

theorem fail_ok {h0 h : Heap} {l : List HP} {i : Nat} {bs : List UInt8} {bad : Bool} (S : St h0 h (inA i bs bad :: l)) :
    CallsH Try.prog 92 [.pointer (some ⟨i, 0, none⟩)] h fun r h' => St h0 h' (inA i [] true :: l) := by
  obtain ⟨A, c, hp, S⟩ := inA_open.1 S
  (refine enterK c_codec_In_fail (Nat.le_of_ble_eq_true rfl) fun K hK => ?_; (try simp (maxSteps := 1000000) (disch := first | omega | assumption | exact Nat.le_of_ble_eq_true rfl) only [go_sem, ↓mwp_block, simprocAttr, ir_codec_In_fail]))
  (refine st_store (by first | exact S | exact S.p1 | exact S.p2 | exact S.p3 | exact S.p4 | exact S.p5 | exact S.p6 | exact S.p7 | exact S.p8 | exact S.p9 | exact S.p10 | exact S.p11) (by rfl) (by rfl) (Nat.le_of_ble_eq_true rfl) ?_; clear S; intro h S; (try simp only [splice_cons, splice_nil, List.set_cons_zero, List.set_cons_succ, Nat.zero_add, Nat.reduceAdd, List.cons_append, List.nil_append] at S); ((try clear F); have F := S.all; (try simp only [all_cons, all_nil, says_cell, and_true] at F)))
  (try simp (maxSteps := 1000000) (disch := first | omega | assumption | exact Nat.le_of_ble_eq_true rfl) only [go_sem, ↓mwp_block, simprocAttr])
  (refine st_store (by first | exact S | exact S.p1 | exact S.p2 | exact S.p3 | exact S.p4 | exact S.p5 | exact S.p6 | exact S.p7 | exact S.p8 | exact S.p9 | exact S.p10 | exact S.p11) (by rfl) (by rfl) (Nat.le_of_ble_eq_true rfl) ?_; clear S; intro h S; (try simp only [splice_cons, splice_nil, List.set_cons_zero, List.set_cons_succ, Nat.zero_add, Nat.reduceAdd, List.cons_append, List.nil_append] at S); ((try clear F); have F := S.all; (try simp only [all_cons, all_nil, says_cell, and_true] at F)))
  (try simp (maxSteps := 1000000) (disch := first | omega | assumption | exact Nat.le_of_ble_eq_true rfl) only [go_sem, ↓mwp_block, simprocAttr])
  refine hK _ _ (inA_open.2 ⟨none, 0, ⟨by simp, by decide, by simp⟩, ?_⟩)
  have S := S.p1.reView (M := [(none, [])]) (by intro x hx; simp at hx; subst hx; exact Arr.nil _ _ _ _) (by intro x hx b hb; simp at hx; subst hx; simp [vBlk] at hb)
  exact S.p1

theorem vBlk_sub {A : Option Addr} {xs ys : List UInt8} (hne : ys = [] → xs = []) : ∀ b ∈ vBlk (A, xs), b ∈ vBlk (A, ys) := by
  intro b hb
  unfold vBlk at hb ⊢
  split at hb
  · cases hb
  · rename_i h1
    rw [if_neg (fun h2 => h1 (hne h2))]
    exact hb

theorem St.split2 {h0 h : Heap} {l : List HP} {b off : Nat} {bs : List UInt8} (S : St h0 h (viewsA [(some ⟨b, off, none⟩, bs)] :: l)) (n : Nat) :
    St h0 h (viewsA [(some ⟨b, off, none⟩, bs.take n), (some ⟨b, off + n, none⟩, bs.drop n)] :: l) := by
  have hv := S.view (x := (some ⟨b, off, none⟩, bs)) (by simp)
  refine S.reView ?_ ?_
  · intro x hx
    simp only [List.mem_cons, List.not_mem_nil, or_false] at hx
    rcases hx with rfl | rfl
    · exact arr_take hv n
    · exact arr_drop hv n
  · intro x hx b' hb'
    refine ⟨_, List.mem_singleton.2 rfl, ?_⟩
    simp only [List.mem_cons, List.not_mem_nil, or_false] at hx
    rcases hx with rfl | rfl <;>
    · unfold vBlk at hb' ⊢
      split at hb'
      · cases hb'
      · rename_i h1
        rw [if_neg (fun h2 => h1 (by simp only at h2 ⊢; rw [h2]; simp))]
        exact hb'
theorem St.split1 {h0 h : Heap} {l : List HP} {A : Option Addr} {bs : List UInt8} (S : St h0 h (viewsA [(A, bs)] :: l)) (B : Option Addr) :
    St h0 h (viewsA [(A, bs), (B, [])] :: l) := by
  have hv := S.view (x := (A, bs)) (by simp)
  refine S.reView ?_ ?_
  · intro x hx
    simp only [List.mem_cons, List.not_mem_nil, or_false] at hx
    rcases hx with rfl | rfl
    · exact hv
    · exact Arr.nil _ _ _ _
  · intro x hx b' hb'
    simp only [List.mem_cons, List.not_mem_nil, or_false] at hx
    rcases hx with rfl | rfl
    · exact ⟨_, List.mem_singleton.2 rfl, hb'⟩
    · simp [vBlk] at hb'

/-- What is taken, and what is left, stand in one block. -/
theorem take_ok (n : Nat) {h0 h : Heap} {l : List HP} {i : Nat} {bs : List UInt8} (S : St h0 h (inA i bs false :: l)) (hn : n ≤ bs.length) (hl : bs.length < 1000000000) :
    CallsH Try.prog 96 [.pointer (some ⟨i, 0, none⟩), .int .i64 n] h fun r h' => ∃ A B c, r = .slice A n n ∧ ((bs.drop n).length ≤ c ∧ c < 9223372036854775808 ∧ ∀ a : Addr, B = some a → a.spot = none) ∧
      St h0 h' (cellA i [.slice B (bs.drop n).length c, .bool false] 123 :: viewsA [(A, bs.take n), (B, bs.drop n)] :: l) := by
  obtain ⟨A, c, ⟨hp1, hp2, hp3⟩, S⟩ := inA_open.1 S
  have hv := S.p1.view (x := (A, bs)) (by simp)
  have hdl : (bs.drop n).length = bs.length - n := List.length_drop
  have hnil : bs.take n = [] → bs.drop n = [] → bs = [] := fun h1 h2 => by rw [← List.take_append_drop n bs, h1, h2]; rfl
  (refine enterK c_codec_In_take (Nat.le_of_ble_eq_true rfl) fun K hK => ?_; (try simp (maxSteps := 1000000) (disch := first | omega | assumption | exact Nat.le_of_ble_eq_true rfl) only [go_sem, ↓mwp_block, simprocAttr, ir_codec_In_take]))
  ((try clear F); have F := S.all; (try simp only [all_cons, all_nil, says_cell, and_true] at F))
  (try simp (maxSteps := 1000000) (disch := first | omega | assumption | exact Nat.le_of_ble_eq_true rfl) only [go_sem, ↓mwp_block, simprocAttr, F])
  cases A with
  | none =>
    have hb : bs = [] := by
      cases bs with
      | nil => rfl
      | cons x xs => obtain ⟨b, off, hA, _⟩ := hv 0 (by simp); cases hA
    subst hb
    simp only [List.length_nil, Nat.le_zero] at hn
    subst hn
    (try simp (maxSteps := 1000000) (disch := first | omega | assumption | exact Nat.le_of_ble_eq_true rfl) only [go_sem, ↓mwp_block, simprocAttr, F])
    (refine st_store (by first | exact S | exact S.p1 | exact S.p2 | exact S.p3 | exact S.p4 | exact S.p5 | exact S.p6 | exact S.p7 | exact S.p8 | exact S.p9 | exact S.p10 | exact S.p11) (by rfl) (by rfl) (Nat.le_of_ble_eq_true rfl) ?_; clear S; intro h S; (try simp only [splice_cons, splice_nil, List.set_cons_zero, List.set_cons_succ, Nat.zero_add, Nat.reduceAdd, List.cons_append, List.nil_append] at S); ((try clear F); have F := S.all; (try simp only [all_cons, all_nil, says_cell, and_true] at F)))
    (try simp (maxSteps := 1000000) (disch := first | omega | assumption | exact Nat.le_of_ble_eq_true rfl) only [go_sem, ↓mwp_block, simprocAttr])
    refine hK _ _ ⟨none, none, c, rfl, ⟨by simp, hp2, by simp⟩, ?_⟩
    exact (S.p1.split1 none).p1
  | some a =>
    have ha := hp3 a rfl
    obtain ⟨b, off, sp⟩ := a
    cases ha
    by_cases hnc : n < c
    · (try simp (maxSteps := 1000000) (disch := first | omega | assumption | exact Nat.le_of_ble_eq_true rfl) only [go_sem, ↓mwp_block, simprocAttr, F])
      (refine st_store (by first | exact S | exact S.p1 | exact S.p2 | exact S.p3 | exact S.p4 | exact S.p5 | exact S.p6 | exact S.p7 | exact S.p8 | exact S.p9 | exact S.p10 | exact S.p11) (by rfl) (by rfl) (Nat.le_of_ble_eq_true rfl) ?_; clear S; intro h S; (try simp only [splice_cons, splice_nil, List.set_cons_zero, List.set_cons_succ, Nat.zero_add, Nat.reduceAdd, List.cons_append, List.nil_append] at S); ((try clear F); have F := S.all; (try simp only [all_cons, all_nil, says_cell, and_true] at F)))
      (try simp (maxSteps := 1000000) (disch := first | omega | assumption | exact Nat.le_of_ble_eq_true rfl) only [go_sem, ↓mwp_block, simprocAttr])
      refine hK _ _ ⟨some ⟨b, off, none⟩, some ⟨b, off + n, none⟩, c - n, rfl, ⟨by omega, by omega, by simp⟩, ?_⟩
      rw [hdl]
      simp only [Nat.mul_one] at S
      exact (S.p1.split2 n).p1
    · obtain rfl : n = c := by omega
      obtain rfl : n = bs.length := by omega
      (try simp (maxSteps := 1000000) (disch := first | omega | assumption | exact Nat.le_of_ble_eq_true rfl) only [go_sem, ↓mwp_block, simprocAttr, F])
      (refine st_store (by first | exact S | exact S.p1 | exact S.p2 | exact S.p3 | exact S.p4 | exact S.p5 | exact S.p6 | exact S.p7 | exact S.p8 | exact S.p9 | exact S.p10 | exact S.p11) (by rfl) (by rfl) (Nat.le_of_ble_eq_true rfl) ?_; clear S; intro h S; (try simp only [splice_cons, splice_nil, List.set_cons_zero, List.set_cons_succ, Nat.zero_add, Nat.reduceAdd, List.cons_append, List.nil_append] at S); ((try clear F); have F := S.all; (try simp only [all_cons, all_nil, says_cell, and_true] at F)))
      (try simp (maxSteps := 1000000) (disch := first | omega | assumption | exact Nat.le_of_ble_eq_true rfl) only [go_sem, ↓mwp_block, simprocAttr])
      refine hK _ _ ⟨some ⟨b, off, none⟩, some ⟨b, off, none⟩, 0, rfl, ⟨by simp, by decide, by simp⟩, ?_⟩
      rw [List.take_length, List.drop_length]
      exact (S.p1.split1 _).p1

/-! What a reading of n bytes yields, and leaves. -/
def rdV (n : Nat) (bs : List UInt8) (bad : Bool) : Int := if bad = true ∨ bs.length < n then 0 else num (bs.take n)
def rdB (n : Nat) (bs : List UInt8) (bad : Bool) : List UInt8 := if bad = true ∨ bs.length < n then [] else bs.drop n
def rdX (n : Nat) (bs : List UInt8) (bad : Bool) : Bool := bad || decide (bs.length < n)
theorem take_bad (n : Nat) {h0 h : Heap} {l : List HP} {i : Nat} {bs : List UInt8} {bad : Bool} (S : St h0 h (inA i bs bad :: l)) (hn : bad = true ∨ bs.length < n) (hl : bs.length < 1000000000) (hn8 : n < 1000000000) :
    CallsH Try.prog 96 [.pointer (some ⟨i, 0, none⟩), .int .i64 n] h fun r h' => r = .slice none 0 0 ∧ St h0 h' (inA i [] true :: l) := by
  (refine enterK c_codec_In_take (Nat.le_of_ble_eq_true rfl) fun K hK => ?_; (try simp (maxSteps := 1000000) (disch := first | omega | assumption | exact Nat.le_of_ble_eq_true rfl) only [go_sem, ↓mwp_block, simprocAttr, ir_codec_In_take]))
  obtain ⟨A, c, hp, S⟩ := inA_open.1 S
  ((try clear F); have F := S.all; (try simp only [all_cons, all_nil, says_cell, and_true] at F))
  cases bad
  · have hn : bs.length < n := by simpa using hn
    (try simp (maxSteps := 1000000) (disch := first | omega | assumption | exact Nat.le_of_ble_eq_true rfl) only [go_sem, ↓mwp_block, simprocAttr, F])
    refine call_intro (fail_ok (inA_open.2 ⟨A, c, hp, S⟩)) fun r h S => ?_
    (try simp (maxSteps := 1000000) (disch := first | omega | assumption | exact Nat.le_of_ble_eq_true rfl) only [go_sem, ↓mwp_block, simprocAttr])
    exact hK _ _ ⟨rfl, S⟩
  · (try simp (maxSteps := 1000000) (disch := first | omega | assumption | exact Nat.le_of_ble_eq_true rfl) only [go_sem, ↓mwp_block, simprocAttr, F])
    refine call_intro (fail_ok (inA_open.2 ⟨A, c, hp, S⟩)) fun r h S => ?_
    (try simp (maxSteps := 1000000) (disch := first | omega | assumption | exact Nat.le_of_ble_eq_true rfl) only [go_sem, ↓mwp_block, simprocAttr])
    exact hK _ _ ⟨rfl, S⟩

theorem lor_add {v c k : Nat} (hv : v < 2 ^ k) : v ||| c * 2 ^ k = v + c * 2 ^ k := by
  have := Nat.shiftLeft_add_eq_or_of_lt hv c
  rw [Nat.shiftLeft_eq] at this
  rw [Nat.or_comm, ← this, Nat.add_comm]
theorem num_take_succ (bs : List UInt8) {i : Nat} (hi : i < bs.length) : num (bs.take (i + 1)) = num (bs.take i) + bs[i].toNat * 256 ^ i := by
  rw [List.take_succ_eq_append_getElem hi, num_append, List.length_take, Nat.min_eq_left (by omega)]
  simp only [num, Int.mul_zero, Int.add_zero]
  rw [Int.mul_comm]
theorem bor64 {v c : Nat} {k : Nat} (hv : v < 256 ^ k) (hc : c < 256) (hk : k < 8) : binV .or (.int .u64 (v : Int)) (.int .u64 (c * 256 ^ k : Nat)) = some (.int .u64 ((v + c * 256 ^ k : Nat) : Int)) := by
  have h256 : (256 : Nat) ^ k = 2 ^ (8 * k) := by rw [Nat.pow_mul]
  have h8 : c * 256 ^ k + 256 ^ k ≤ 256 ^ 8 := by
    have : c * 256 ^ k + 256 ^ k = (c + 1) * 256 ^ k := by rw [Nat.succ_mul]
    rw [this]
    calc (c + 1) * 256 ^ k ≤ 256 * 256 ^ k := Nat.mul_le_mul_right _ (by omega)
      _ = 256 ^ (k + 1) := by rw [Nat.pow_succ, Nat.mul_comm]
      _ ≤ 256 ^ 8 := Nat.pow_le_pow_right (by decide) (by omega)
  have hb : (256 : Nat) ^ 8 = 18446744073709551616 := by decide
  rw [hb] at h8
  have e1 : (BitVec.ofInt IntKind.u64.bits (v : Int)).toNat = v := by
    rw [BitVec.toNat_ofInt]
    have : ((2 ^ IntKind.u64.bits : Nat) : Int) = 18446744073709551616 := rfl
    rw [this, Int.emod_eq_of_lt (by omega) (by omega)]
    rfl
  have e2 : (BitVec.ofInt IntKind.u64.bits ((c * 256 ^ k : Nat) : Int)).toNat = c * 256 ^ k := by
    rw [BitVec.toNat_ofInt]
    have : ((2 ^ IntKind.u64.bits : Nat) : Int) = 18446744073709551616 := rfl
    rw [this, Int.emod_eq_of_lt (by omega) (by omega)]
    rfl
  rw [bin_or, BitVec.toNat_or, e1, e2, h256, lor_add (by rw [← h256]; exact hv), ← h256, wrap_u64 (by omega) (by omega)]
end Go.Proofs.Ytackopkhelochaa.MX
