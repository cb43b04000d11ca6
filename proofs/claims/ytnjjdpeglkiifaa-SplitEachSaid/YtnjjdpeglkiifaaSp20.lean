/- Split: the laws SplitShares, SplitEach, SplitNoughts. -/
import Derived.Test.YtnjjdpeglkiifaaSp19
namespace Go.Proofs.Ytnjjdpeglkiifaa.MX
open Go Go.Proofs
set_option linter.unusedSimpArgs false
set_option linter.unusedVariables false
set_option maxHeartbeats 8000000
structure D64 where
  n : Int
def D64.enc (x : D64) : List Value := [.int .i64 x.n]
def D64.ok (x : D64) : Prop := -9223372036854775808 ≤ x.n ∧ x.n < 9223372036854775808
theorem d64_of {h : Heap} {d : Nat} {cs : List Value} (hg : Good Try.prog h d 2 cs) : ∃ x : D64, cs = x.enc ∧ x.ok := by
  have hl : leaves Try.prog 2 2 = some [.int .i64] := by kernel_rfl
  obtain ⟨a, _, rfl, w0, rfl⟩ := leaves_of 2 hg hl
  exact ⟨⟨a⟩, rfl, wf_i64 w0⟩
theorem arr_d64 {h : Heap} {A : Option Addr} {l : List D64} (ha : Arr D64.enc 1 h A l) : Arr zEnc 1 h A (l.map D64.n) := by
  intro i hi
  have hi' : i < l.length := by rw [List.length_map] at hi; exact hi
  obtain ⟨b, off, e, hr⟩ := ha i hi'
  refine ⟨b, off, e, ?_⟩
  rw [List.getElem_map]
  exact hr
section
variable {h0 h : Heap} {l : List HP}
theorem awake06_ok (h : Heap) : CallsH Try.prog 27 [] h fun v h' => v = .bool true ∧ Fr h h' [] := by
  have S := St.nil h
  refine enterK c_recouplaw06_awake (Nat.le_of_ble_eq_true rfl) fun K hK => ?_
  (try simp (maxSteps := 1000000) (disch := first | omega | assumption | exact Nat.le_of_ble_eq_true rfl) only [go_sem, ↓mwp_block, simprocAttr, ir_recouplaw06_awake, zerosL])
  (refine st_alloc S ?_; clear S; intro g h S; (try simp only [splice_cons, splice_nil, List.set_cons_zero, List.set_cons_succ, Nat.zero_add, Nat.reduceAdd, List.cons_append, List.nil_append] at S); ((try clear F); have F := S.all; (try simp only [all_cons, all_nil, says_cell, and_true] at F)))
  have S := S.cellOwn (enc := zEnc) (sz := 1) (ys := [1, 1, 1]) zEnc_len rfl (by decide)
  clear F
  (try simp (maxSteps := 1000000) (disch := first | omega | assumption | exact Nat.le_of_ble_eq_true rfl) only [go_sem, ↓mwp_block, simprocAttr])
  refine call_intro (SharesA_ok 100 [1, 1, 1] (fun h' S => S.arr zEnc_len) (by decide) S) ?_
  clear S
  rintro _ h' (⟨hn, _⟩ | ⟨_, s, out, rfl, hI, hlo, S⟩)
  · exact (hn (by decide)).elim
  have he : effW [1, 1, 1] = [1, 1, 1] := by decide
  rw [he] at hI
  have ho : out = [34, 33, 33] := hI.unique ⟨[0, 1, 2], by decide, by simp [Rk, restW], by decide⟩
  subst ho
  obtain ⟨A, c, rfl⟩ := S.sl
  obtain ⟨b, rfl⟩ := S.ownAt (by decide)
  have hr := own_rd S (i := 0) (x := 34) rfl
  simp only [Nat.zero_mul] at hr
  (try simp (maxSteps := 1000000) (disch := first | omega | assumption | exact Nat.le_of_ble_eq_true rfl) only [go_sem, ↓mwp_block, simprocAttr, hr])
  exact hK _ _ ⟨rfl, S.fr⟩
theorem SplitShares_ok (sum : Int) (A : Option Addr) (c : Nat) (l : List D64) (h0 : Heap) (_ : -9223372036854775808 ≤ sum ∧ sum < 9223372036854775808) (ha : Arr D64.enc 1 h0 A l) (_ : l.length ≤ c) (_ : c ≤ maxLen) (_ : ∀ x ∈ l, x.ok) :
    CallsH Try.prog 7 [.int .i64 sum, .slice A l.length c] h0 fun v h' => v = .bool true ∧ Fr h0 h' [] := by
  have ha := arr_d64 ha
  rw [← List.length_map (f := D64.n)]
  generalize l.map D64.n = ws at *
  have ha' : ∀ {L : List HP} h', St h0 h' L → Arr zEnc 1 h' A ws := fun h' S => ha.fr S.fr (by simp)
  have S := St.nil h0
  by_cases h1 : (300 : Int) < ws.length
  · (refine enterK c_recouplaw06_SplitShares (Nat.le_of_ble_eq_true rfl) fun K hK => ?_; (try simp (maxSteps := 1000000) (disch := first | omega | assumption | exact Nat.le_of_ble_eq_true rfl) only [go_sem, ↓mwp_block, simprocAttr, ir_recouplaw06_SplitShares]))
    refine call_intro (awake06_ok _) ?_
    rintro _ h ⟨rfl, f1⟩
    (try simp (maxSteps := 1000000) (disch := first | omega | assumption | exact Nat.le_of_ble_eq_true rfl) only [go_sem, ↓mwp_block, simprocAttr, h1])
    refine call_intro (awake06_ok _) ?_
    rintro _ h' ⟨rfl, f2⟩
    (try simp (maxSteps := 1000000) (disch := first | omega | assumption | exact Nat.le_of_ble_eq_true rfl) only [go_sem, ↓mwp_block, simprocAttr])
    exact hK _ _ ⟨rfl, f1.trans f2⟩
  (refine enterK c_recouplaw06_SplitShares (Nat.le_of_ble_eq_true rfl) fun K hK => ?_; (try simp (maxSteps := 1000000) (disch := first | omega | assumption | exact Nat.le_of_ble_eq_true rfl) only [go_sem, ↓mwp_block, simprocAttr, ir_recouplaw06_SplitShares]))
  refine call_intro (awake06_ok _) ?_
  rintro _ h ⟨rfl, f1⟩
  have S := S.frame f1
  (try simp (maxSteps := 1000000) (disch := first | omega | assumption | exact Nat.le_of_ble_eq_true rfl) only [go_sem, ↓mwp_block, simprocAttr, h1])
  refine call_intro (SharesA_ok sum ws ha' (by omega) S) ?_
  clear S f1
  rintro _ h (⟨hask, rfl, S⟩ | ⟨hask, s, out, rfl, hI, hlo, S⟩)
  · (try simp (maxSteps := 1000000) (disch := first | omega | assumption | exact Nat.le_of_ble_eq_true rfl) only [go_sem, ↓mwp_block, simprocAttr])
    refine call_intro (RAsked_ok sum (ha' _ S) (by omega)) ?_
    rintro _ _ ⟨rfl, rfl⟩
    (try simp (maxSteps := 1000000) (disch := first | omega | assumption | exact Nat.le_of_ble_eq_true rfl) only [go_sem, ↓mwp_block, simprocAttr, hask])
    exact hK _ _ ⟨rfl, S.fr⟩
  · (try simp (maxSteps := 1000000) (disch := first | omega | assumption | exact Nat.le_of_ble_eq_true rfl) only [go_sem, ↓mwp_block, simprocAttr])
    refine call_intro (RAsked_ok sum (ha' _ S) (by omega)) ?_
    rintro _ _ ⟨rfl, rfl⟩
    rw [hask]
    obtain ⟨_, _, _, hs0, hs1, _, _⟩ := ask0 hask
    obtain ⟨k, rfl⟩ : ∃ k : Nat, sum = k := ⟨sum.toNat, by omega⟩
    rw [Int.toNat_natCast] at hI
    obtain ⟨B, d, rfl⟩ := S.sl
    (try simp (maxSteps := 1000000) (disch := first | omega | assumption | exact Nat.le_of_ble_eq_true rfl) only [go_sem, ↓mwp_block, simprocAttr])
    refine call_intro (RShares_ok k ws ha' hask hI S) ?_
    clear S
    intro v h S
    obtain ⟨B2, d2, rfl⟩ := S.sl
    (try simp (maxSteps := 1000000) (disch := first | omega | assumption | exact Nat.le_of_ble_eq_true rfl) only [go_sem, ↓mwp_block, simprocAttr])
    refine call_intro (Same06_ok (S.p1.arr zEnc_len) (S.arr zEnc_len) (by omega)) ?_
    rintro _ _ ⟨rfl, rfl⟩
    rw [dcd_true rfl]
    (try simp (maxSteps := 1000000) (disch := first | omega | assumption | exact Nat.le_of_ble_eq_true rfl) only [go_sem, ↓mwp_block, simprocAttr])
    exact hK _ _ ⟨rfl, S.fr⟩
theorem SplitNoughts_ok (sum n : Int) (h0 : Heap) (_ : -9223372036854775808 ≤ sum ∧ sum < 9223372036854775808) (hn : 0 ≤ n ∧ n < 256) :
    CallsH Try.prog 10 [.int .i64 sum, .int .u8 n] h0 fun v h' => v = .bool true ∧ Fr h0 h' [] := by
  obtain ⟨k, rfl⟩ : ∃ k : Nat, n = k := ⟨n.toNat, by omega⟩
  have S := St.nil h0
  have wk := i64N (n := k) (by omega)
  (refine enterK c_recouplaw06_SplitNoughts (Nat.le_of_ble_eq_true rfl) fun K hK => ?_; (try simp (maxSteps := 1000000) (disch := first | omega | assumption | exact Nat.le_of_ble_eq_true rfl) only [go_sem, ↓mwp_block, simprocAttr, ir_recouplaw06_SplitNoughts]))
  refine call_intro (awake06_ok _) ?_
  rintro _ h ⟨rfl, f1⟩
  have S := S.frame f1
  clear f1
  (try simp (maxSteps := 1000000) (disch := first | omega | assumption | exact Nat.le_of_ble_eq_true rfl) only [go_sem, ↓mwp_block, simprocAttr, wk])
  refine st_make (0 : Int) zEnc_len rfl S (by omega) (by omega) ?_
  clear S
  intro v h S
  obtain ⟨A, c, rfl⟩ := S.sl
  have hsh := SharesA_ok (c := c) sum (List.replicate k 0) (fun h' S => S.arr zEnc_len) (by rw [List.length_replicate]; omega) S
  have hz : (List.replicate k (0 : Int)).sum = 0 := by
    clear hsh S hn wk
    induction k with
    | zero => rfl
    | succ k ih => rw [List.replicate_succ, List.sum_cons, ih]; rfl
  have he : effW (List.replicate k 0) = List.replicate k 1 := by unfold effW; rw [if_pos hz, List.length_replicate]
  have he1 : 0 < k → effW (List.replicate k 1) = List.replicate k 1 := fun hk => by
    have hmap : (List.replicate k 1).map Int.ofNat = List.replicate k (1 : Int) := List.map_replicate
    have hsm := sumI (List.replicate k 1)
    rw [hmap, sum_ones] at hsm
    unfold effW
    rw [if_neg (by omega), List.map_replicate]
    rfl
  have hbad : k = 0 ∨ 200 < k → askE sum (List.replicate k 0) = 1 := fun hk => by
    unfold askE
    rw [List.length_replicate, if_pos]
    omega
  have hgood : 0 < k → k ≤ 200 → askE sum (List.replicate k 0) = askE sum (List.replicate k 1) := fun hk hk2 => by
    rw [ask_ones hk hk2]
    unfold askE
    rw [List.length_replicate, if_neg, hz]
    · by_cases hc : sum < 0 ∨ 1125899906842624 < sum
      · rw [if_pos (by omega), if_pos hc]
      · rw [if_neg (by omega), if_neg hc]
    · rintro (h | h | h)
      · omega
      · omega
      · refine h fun w hw => ?_
        rw [List.mem_replicate] at hw
        rw [hw.2]
        exact ⟨by decide, by decide⟩
  rw [List.length_replicate] at hsh ⊢
  (try simp (maxSteps := 1000000) (disch := first | omega | assumption | exact Nat.le_of_ble_eq_true rfl) only [go_sem, ↓mwp_block, simprocAttr])
  refine call_intro hsh ?_
  clear S hsh
  rintro _ h (⟨hask, rfl, S⟩ | ⟨hask, s, out, rfl, hI, hlo, S⟩)
  · (try simp (maxSteps := 1000000) (disch := first | omega | assumption | exact Nat.le_of_ble_eq_true rfl) only [go_sem, ↓mwp_block, simprocAttr, wk])
    by_cases hk : k = 0 ∨ 200 < k
    · rw [hbad hk]
      refine call_intro (Each_bad sum k (by omega) _) ?_
      rintro _ _ ⟨rfl, rfl⟩
      (try simp (maxSteps := 1000000) (disch := first | omega | assumption | exact Nat.le_of_ble_eq_true rfl) only [go_sem, ↓mwp_block, simprocAttr])
      have S := S.nilS (enc := zEnc) (sz := 1) (T := 2)
      refine call_intro (Same06_ok (xs := []) (ys := []) (S.arr zEnc_len) (S.arr zEnc_len) (by decide)) ?_
      rintro _ _ ⟨rfl, rfl⟩
      rw [dcd_true rfl]
      (try simp (maxSteps := 1000000) (disch := first | omega | assumption | exact Nat.le_of_ble_eq_true rfl) only [go_sem, ↓mwp_block, simprocAttr])
      exact hK _ _ ⟨rfl, S.fr⟩
    · rw [hgood (by omega) (by omega)] at hask ⊢
      refine call_intro (Each_ok sum k (by omega) (by omega) S) ?_
      clear S
      rintro _ h (⟨_, rfl, S⟩ | ⟨hn, _⟩)
      · (try simp (maxSteps := 1000000) (disch := first | omega | assumption | exact Nat.le_of_ble_eq_true rfl) only [go_sem, ↓mwp_block, simprocAttr])
        have S := S.nilS (enc := zEnc) (sz := 1) (T := 2)
        refine call_intro (Same06_ok (xs := []) (ys := []) (S.arr zEnc_len) (S.arr zEnc_len) (by decide)) ?_
        rintro _ _ ⟨rfl, rfl⟩
        rw [dcd_true rfl]
        (try simp (maxSteps := 1000000) (disch := first | omega | assumption | exact Nat.le_of_ble_eq_true rfl) only [go_sem, ↓mwp_block, simprocAttr])
        exact hK _ _ ⟨rfl, S.fr⟩
      · exact (hask hn).elim
  · have hk : 0 < k ∧ k ≤ 200 := by
      have := ask0 hask
      rw [List.length_replicate] at this
      exact ⟨this.1, this.2.1⟩
    rw [hgood hk.1 hk.2] at hask
    rw [he] at hI
    (try simp (maxSteps := 1000000) (disch := first | omega | assumption | exact Nat.le_of_ble_eq_true rfl) only [go_sem, ↓mwp_block, simprocAttr, wk])
    refine call_intro (Each_ok sum k hk.1 hk.2 S) ?_
    clear S
    rintro _ h (⟨hn, _⟩ | ⟨_, s2, out2, rfl, hI2, hlo2, S⟩)
    · exact (hn hask).elim
    rw [he1 hk.1] at hI2
    have := hI2.unique hI
    subst this
    obtain ⟨B2, d2, rfl⟩ := S.sl
    obtain ⟨B, d, rfl⟩ := S.p1.sl
    (try simp (maxSteps := 1000000) (disch := first | omega | assumption | exact Nat.le_of_ble_eq_true rfl) only [go_sem, ↓mwp_block, simprocAttr])
    refine call_intro (Same06_ok (S.p1.arr zEnc_len) (S.arr zEnc_len) (by rw [hlo2, List.length_replicate]; omega)) ?_
    rintro _ _ ⟨rfl, rfl⟩
    rw [dcd_true rfl]
    (try simp (maxSteps := 1000000) (disch := first | omega | assumption | exact Nat.le_of_ble_eq_true rfl) only [go_sem, ↓mwp_block, simprocAttr])
    exact hK _ _ ⟨rfl, S.fr⟩
theorem SplitEach_ok (sum n : Int) (h0 : Heap) (_ : -9223372036854775808 ≤ sum ∧ sum < 9223372036854775808) (hn : -9223372036854775808 ≤ n ∧ n < 9223372036854775808) :
    CallsH Try.prog 9 [.int .i64 sum, .int .i64 n] h0 fun v h' => v = .bool true ∧ Fr h0 h' [] := by
  have S := St.nil h0
  by_cases c1 : n < 1
  · (refine enterK c_recouplaw06_SplitEach (Nat.le_of_ble_eq_true rfl) fun K hK => ?_; (try simp (maxSteps := 1000000) (disch := first | omega | assumption | exact Nat.le_of_ble_eq_true rfl) only [go_sem, ↓mwp_block, simprocAttr, ir_recouplaw06_SplitEach]))
    refine call_intro (awake06_ok _) ?_
    rintro _ h ⟨rfl, f1⟩
    (try simp (maxSteps := 1000000) (disch := first | omega | assumption | exact Nat.le_of_ble_eq_true rfl) only [go_sem, ↓mwp_block, simprocAttr])
    refine call_intro (Each_bad sum n (.inl c1) _) ?_
    rintro _ _ ⟨rfl, rfl⟩
    (try simp (maxSteps := 1000000) (disch := first | omega | assumption | exact Nat.le_of_ble_eq_true rfl) only [go_sem, ↓mwp_block, simprocAttr, c1])
    exact hK _ _ ⟨rfl, f1⟩
  by_cases c2 : (200 : Int) < n
  · (refine enterK c_recouplaw06_SplitEach (Nat.le_of_ble_eq_true rfl) fun K hK => ?_; (try simp (maxSteps := 1000000) (disch := first | omega | assumption | exact Nat.le_of_ble_eq_true rfl) only [go_sem, ↓mwp_block, simprocAttr, ir_recouplaw06_SplitEach]))
    refine call_intro (awake06_ok _) ?_
    rintro _ h ⟨rfl, f1⟩
    (try simp (maxSteps := 1000000) (disch := first | omega | assumption | exact Nat.le_of_ble_eq_true rfl) only [go_sem, ↓mwp_block, simprocAttr])
    refine call_intro (Each_bad sum n (.inr c2) _) ?_
    rintro _ _ ⟨rfl, rfl⟩
    (try simp (maxSteps := 1000000) (disch := first | omega | assumption | exact Nat.le_of_ble_eq_true rfl) only [go_sem, ↓mwp_block, simprocAttr, c1, c2])
    exact hK _ _ ⟨rfl, f1⟩
  obtain ⟨k, rfl⟩ : ∃ k : Nat, n = k := ⟨n.toNat, by omega⟩
  have hk0 : 0 < k := by omega
  have hk1 : k ≤ 200 := by omega
  have hln : (List.replicate k (1 : Int)).length = k := List.length_replicate ..
  (refine enterK c_recouplaw06_SplitEach (Nat.le_of_ble_eq_true rfl) fun K hK => ?_; (try simp (maxSteps := 1000000) (disch := first | omega | assumption | exact Nat.le_of_ble_eq_true rfl) only [go_sem, ↓mwp_block, simprocAttr, ir_recouplaw06_SplitEach]))
  refine call_intro (awake06_ok _) ?_
  rintro _ h ⟨rfl, f1⟩
  have S := S.frame f1
  clear f1
  (try simp (maxSteps := 1000000) (disch := first | omega | assumption | exact Nat.le_of_ble_eq_true rfl) only [go_sem, ↓mwp_block, simprocAttr])
  refine call_intro (Each_ok sum k hk0 hk1 S) ?_
  clear S
  intro v1 h H1
  obtain ⟨s1, o1, ef, hv1, S, hP⟩ : ∃ s1 o1, ∃ ef : Int, v1 = .tuple #[s1, .int .i64 ef] ∧ St h0 h [ownA zEnc 1 2 s1 o1] ∧ ((askE sum (List.replicate k 1) ≠ 0 ∧ ef = askE sum (List.replicate k 1) ∧ o1 = []) ∨ (askE sum (List.replicate k 1) = 0 ∧ ef = 0 ∧ o1.length = k ∧ IsShares sum.toNat (effW (List.replicate k 1)).sum (effW (List.replicate k 1)) o1)) := by
    rcases H1 with ⟨hask, rfl, S⟩ | ⟨hask, s, out, rfl, hI, hlo, S⟩
    · exact ⟨_, [], _, rfl, S.nilS, .inl ⟨hask, rfl, rfl⟩⟩
    · exact ⟨_, _, _, rfl, S, .inr ⟨hask, rfl, by rw [hlo, hln], hI⟩⟩
  subst hv1
  obtain ⟨B1, d1, rfl⟩ := S.sl
  have S := S.nilS (enc := zEnc) (sz := 1) (T := 2)
  (try simp (maxSteps := 1000000) (disch := first | omega | assumption | exact Nat.le_of_ble_eq_true rfl) only [go_sem, ↓mwp_block, simprocAttr, c1, c2])
  refine loop_intro (fun ρ' h' => ρ' 0 = .int .i64 sum ∧ ρ' 5 = .slice B1 o1.length d1 ∧ ρ' 6 = .int .i64 ef ∧ ρ' 31 = .int .i64 k ∧ ∃ (i : Nat) (A : Option Addr) (c : Nat), ρ' 32 = .int .i64 i ∧ i ≤ k ∧ ρ' 7 = .slice A i c ∧
    St h0 h' [ownA zEnc 1 2 (.slice A i c) (List.replicate i 1), ownA zEnc 1 2 (.slice B1 o1.length d1) o1]) (fun ρ' _ => k - (iv (ρ' 32)).toNat) ?_ ?_
  · (try simp (maxSteps := 1000000) (disch := first | omega | assumption | exact Nat.le_of_ble_eq_true rfl) only [go_sem, ↓mwp_block, simprocAttr])
    exact ⟨0, none, 0, rfl, by omega, rfl, S⟩
  clear S
  rintro ρ h J hJ ⟨e0, e5, e6, e31, i, A, c, e32, hi, e7, S⟩
  (try simp (maxSteps := 1000000) (disch := first | omega | assumption | exact Nat.le_of_ble_eq_true rfl) only [go_sem, ↓mwp_block, simprocAttr, e31, e32])
  refine cond_dec (fun hlt => ?_) (fun hlt => ?_)
  · have hik : i < k := by omega
    (try simp (maxSteps := 1000000) (disch := first | omega | assumption | exact Nat.le_of_ble_eq_true rfl) only [go_sem, ↓mwp_block, simprocAttr, e7])
    (refine st_alloc S ?_; clear S; intro g h S; (try simp only [splice_cons, splice_nil, List.set_cons_zero, List.set_cons_succ, Nat.zero_add, Nat.reduceAdd, List.cons_append, List.nil_append] at S); ((try clear F); have F := S.all; (try simp only [all_cons, all_nil, says_cell, and_true] at F)))
    (try simp (maxSteps := 1000000) (disch := first | omega | assumption | exact Nat.le_of_ble_eq_true rfl) only [go_sem, ↓mwp_block, simprocAttr])
    refine st_append1 (bytes := 8) (x := (1 : Int)) zEnc_len (by omega) zEnc_plain rfl rfl S (by rw [List.length_replicate]; omega) (by rw [List.length_replicate]; omega) ?_
    clear S F
    intro v h S
    rw [← List.replicate_succ'] at S
    obtain ⟨A, c, rfl⟩ := S.sl
    rw [List.length_replicate] at S ⊢
    (try simp (maxSteps := 1000000) (disch := first | omega | assumption | exact Nat.le_of_ble_eq_true rfl) only [go_sem, ↓mwp_block, simprocAttr, e32])
    refine hJ _ _ ?_ ?_
    · (try simp (maxSteps := 1000000) (disch := first | omega | assumption | exact Nat.le_of_ble_eq_true rfl) only [go_sem, ↓mwp_block, simprocAttr, e0, e5, e6, e31])
      exact ⟨i + 1, A, c, rfl, by omega, rfl, S⟩
    · (try simp (maxSteps := 1000000) (disch := first | omega | assumption | exact Nat.le_of_ble_eq_true rfl) only [go_sem, ↓mwp_block, simprocAttr, e32])
      omega
  obtain rfl : i = k := by omega
  clear hJ
  have hsh := SharesA_ok (c := c) sum (List.replicate i 1) (fun h' S => S.arr zEnc_len) (by omega) S
  rw [hln] at hsh
  (try simp (maxSteps := 1000000) (disch := first | omega | assumption | exact Nat.le_of_ble_eq_true rfl) only [go_sem, ↓mwp_block, simprocAttr, e0, e7])
  refine call_intro hsh ?_
  clear S hsh
  intro v2 h H2
  obtain ⟨s2, hv2, S⟩ : ∃ s2, v2 = .tuple #[s2, .int .i64 ef] ∧ St h0 h [ownA zEnc 1 2 s2 o1, ownA zEnc 1 2 (.slice A i c) (List.replicate i 1), ownA zEnc 1 2 (.slice B1 o1.length d1) o1] := by
    rcases H2 with ⟨hask, rfl, S⟩ | ⟨hask, s, out, rfl, hI, hlo, S⟩
    · rcases hP with ⟨_, rfl, rfl⟩ | ⟨hn, _⟩
      · exact ⟨_, rfl, S.nilS⟩
      · exact (hask hn).elim
    · rcases hP with ⟨hn, _⟩ | ⟨_, rfl, hlo1, hI1⟩
      · exact (hn hask).elim
      · have := hI1.unique hI
        subst this
        exact ⟨_, rfl, S⟩
  subst hv2
  have hl1 : o1.length < 1000000000 := by
    rcases hP with ⟨_, _, rfl⟩ | ⟨_, _, hl, _⟩
    · decide
    · omega
  obtain ⟨B2, d2, rfl⟩ := S.sl
  (try simp (maxSteps := 1000000) (disch := first | omega | assumption | exact Nat.le_of_ble_eq_true rfl) only [go_sem, ↓mwp_block, simprocAttr, e6, e5])
  refine call_intro (Same06_ok (S.p2.arr zEnc_len) (S.arr zEnc_len) hl1) ?_
  rintro _ _ ⟨rfl, rfl⟩
  rw [dcd_true rfl]
  (try simp (maxSteps := 1000000) (disch := first | omega | assumption | exact Nat.le_of_ble_eq_true rfl) only [go_sem, ↓mwp_block, simprocAttr])
  exact hK _ _ ⟨rfl, S.fr⟩
end
end Go.Proofs.Ytnjjdpeglkiifaa.MX
