/- Texts in one file: Sp17, Sp18, Ce1, Cd1, Tb1. -/
import Derived.Test.YtblalmgahfbalaaGreatK16
import Derived.Test.YtblalmgahfbalaaGreatK15
import Derived.Test.YtblalmgahfbalaaGreatK11
import Derived.Test.YtblalmgahfbalaaGreatIR

/- Split: Each, and Shares of any weights. -/
namespace Go.Proofs.YtblalmgahfbalaaGreat.MX
open Go Go.Proofs
set_option linter.unusedSimpArgs false
set_option linter.unusedVariables false
set_option maxHeartbeats 8000000
theorem sum_ones : ∀ n : Nat, (List.replicate n 1).sum = n
  | 0 => rfl
  | n + 1 => by rw [List.replicate_succ, List.sum_cons, sum_ones n]; omega
/-- The weights that count: if all are 0, each is 1. -/
def effW (ws : List Int) : List Nat := if ws.sum = 0 then List.replicate ws.length 1 else ws.map Int.toNat
theorem ask0 {sum : Int} {ws : List Int} (h : askS sum ws = 0) : 0 < ws.length ∧ ws.length ≤ 200 ∧ (∀ w ∈ ws, fitW w) ∧ 0 ≤ sum ∧ sum ≤ 1125899906842624 ∧ 0 ≤ ws.sum ∧ ws.sum ≤ 1125899906842624 := by
  unfold askS at h
  split at h
  · cases h
  · rename_i h1
    split at h
    · cases h
    · rename_i h2
      have hf : ∀ w ∈ ws, fitW w := Classical.byContradiction fun hn => h1 (.inr (.inr hn))
      have := sum_bound hf
      exact ⟨by omega, by omega, hf, by omega, by omega, by omega, by omega⟩
theorem toNat_back {ws : List Int} (h : ∀ w ∈ ws, fitW w) : (ws.map Int.toNat).map Int.ofNat = ws := by
  rw [List.map_map]
  conv => rhs; rw [← List.map_id ws]
  refine List.map_congr_left fun w hw => ?_
  have := h w hw
  unfold fitW at this
  show ((w.toNat : Nat) : Int) = w
  omega
theorem effW_len (ws : List Int) : (effW ws).length = ws.length := by
  unfold effW
  split
  · rw [List.length_replicate]
  · rw [List.length_map]
theorem effW_pos {sum : Int} {ws : List Int} (h : askS sum ws = 0) : 0 < (effW ws).sum ∧ (effW ws).sum ≤ 1125899906842624 := by
  obtain ⟨h1, h2, h3, h4, h5, h6, h7⟩ := ask0 h
  unfold effW
  split
  · rw [sum_ones]; omega
  · have := sumI (ws.map Int.toNat)
    rw [toNat_back h3] at this
    omega
theorem ask_ones {sum : Int} {n : Nat} (h1 : 0 < n) (h2 : n ≤ 200) : askS sum (List.replicate n 1) = if sum < 0 ∨ 1125899906842624 < sum then 9 else 0 := by
  have hs : (List.replicate n (1 : Int)).sum = n := by
    have := sumI (List.replicate n 1)
    rw [sum_ones, List.map_replicate] at this
    exact this
  unfold askS
  rw [List.length_replicate, if_neg (by
    rintro (h | h | h)
    · omega
    · omega
    · refine h fun w hw => ?_
      rw [List.mem_replicate] at hw
      rw [hw.2]
      exact ⟨by decide, by decide⟩), hs]
  by_cases hc : sum < 0 ∨ 1125899906842624 < sum
  · rw [if_pos (by omega), if_pos hc]
  · rw [if_neg (by omega), if_neg hc]
section
variable {h0 h : Heap} {l : List HP}
theorem SharesE_ok {A : Option Addr} {c : Nat} (sum : Int) {ws : List Int} (ha : Arr zEnc 1 h A ws) (hl : ws.length < 1000000000) (hask : askS sum ws ≠ 0) :
    CallsH Tryz.prog 68 [.int .i64 sum, .slice A ws.length c] h fun v h' => v = .tuple #[.slice none 0 0, .int .i64 (askS sum ws)] ∧ h' = h := by
  (refine enterK c_split_Shares (Nat.le_of_ble_eq_true rfl) fun K hK => ?_; (try simp (maxSteps := 1000000) (disch := first | omega | assumption | exact Nat.le_of_ble_eq_true rfl) only [go_sem, ↓mwp_block, simprocAttr, ir_split_Shares]))
  refine call_intro (asked_ok sum ha hl) ?_
  rintro _ _ ⟨rfl, rfl⟩
  (try simp (maxSteps := 1000000) (disch := first | omega | assumption | exact Nat.le_of_ble_eq_true rfl) only [go_sem, ↓mwp_block, simprocAttr, hask])
  exact hK _ _ ⟨rfl, rfl⟩
/-- What Shares answers. -/
def ShP (h0 h' : Heap) (l : List HP) (sum : Int) (ws : List Int) (v : Value) : Prop :=
  (askS sum ws ≠ 0 ∧ v = .tuple #[.slice none 0 0, .int .i64 (askS sum ws)] ∧ St h0 h' l) ∨
  (askS sum ws = 0 ∧ ∃ s out, v = .tuple #[s, .int .i64 0] ∧ IsShares sum.toNat (effW ws).sum (effW ws) out ∧ out.length = ws.length ∧ St h0 h' (ownA zEnc 1 2 s out :: l))
theorem Each_ok (sum : Int) (n : Nat) (hn1 : 0 < n) (hn2 : n ≤ 200) (S : St h0 h l) :
    CallsH Tryz.prog 83 [.int .i64 sum, .int .i64 n] h fun v h' => ShP h0 h' l sum (List.replicate n 1) v := by
  have c1 : ¬ (n : Int) < 1 := by omega
  have c2 : ¬ (200 : Int) < n := by omega
  (refine enterK c_split_Each (Nat.le_of_ble_eq_true rfl) fun K hK => ?_; (try simp (maxSteps := 1000000) (disch := first | omega | assumption | exact Nat.le_of_ble_eq_true rfl) only [go_sem, ↓mwp_block, simprocAttr, ir_split_Each]))
  (try simp (maxSteps := 1000000) (disch := first | omega | assumption | exact Nat.le_of_ble_eq_true rfl) only [go_sem, ↓mwp_block, simprocAttr, c1, c2])
  refine st_make (0 : Int) zEnc_len rfl S (by omega) (by omega) ?_
  clear S
  intro v h S
  obtain ⟨A, c, rfl⟩ := S.sl
  rw [List.length_replicate] at S ⊢
  obtain ⟨b, rfl⟩ := S.ownAt (by rw [List.length_replicate]; omega)
  (try simp (maxSteps := 1000000) (disch := first | omega | assumption | exact Nat.le_of_ble_eq_true rfl) only [go_sem, ↓mwp_block, simprocAttr])
  refine loop_intro (fun ρ' h' => ρ' 0 = .int .i64 sum ∧ ρ' 6 = .slice (some ⟨b, 0, none⟩) n c ∧ ρ' 17 = .int .i64 n ∧ ∃ i : Nat, ρ' 18 = .int .i64 i ∧ i ≤ n ∧
    St h0 h' (ownA zEnc 1 2 (.slice (some ⟨b, 0, none⟩) n c) ((List.replicate n 1).take i ++ List.replicate (n - i) 0) :: l)) (fun ρ' _ => n - (iv (ρ' 18)).toNat) ?_ ?_
  · (try simp (maxSteps := 1000000) (disch := first | omega | assumption | exact Nat.le_of_ble_eq_true rfl) only [go_sem, ↓mwp_block, simprocAttr])
    exact ⟨0, rfl, by omega, S⟩
  clear S
  rintro ρ h J hJ ⟨e0, e6, e17, i, e18, hi, S⟩
  (try simp (maxSteps := 1000000) (disch := first | omega | assumption | exact Nat.le_of_ble_eq_true rfl) only [go_sem, ↓mwp_block, simprocAttr, e17, e18])
  refine cond_dec (fun hlt => ?_) (fun hlt => ?_)
  · have hil : i < n := by omega
    (try simp (maxSteps := 1000000) (disch := first | omega | assumption | exact Nat.le_of_ble_eq_true rfl) only [go_sem, ↓mwp_block, simprocAttr, e18, e6])
    refine st_setOwn (i := i) (x := 1) zEnc_len S (by rw [List.length_append, List.length_take, List.length_replicate, List.length_replicate]; omega) rfl rfl rfl rfl ?_
    clear S
    intro h S
    (try simp (maxSteps := 1000000) (disch := first | omega | assumption | exact Nat.le_of_ble_eq_true rfl) only [go_sem, ↓mwp_block, simprocAttr, e18])
    refine hJ _ _ ?_ ?_
    · (try simp (maxSteps := 1000000) (disch := first | omega | assumption | exact Nat.le_of_ble_eq_true rfl) only [go_sem, ↓mwp_block, simprocAttr, e0, e6, e17])
      refine ⟨i + 1, rfl, by omega, ?_⟩
      have := set_fill (List.replicate n (1 : Int)) 0 (List.length_replicate ..) hil
      rw [List.getElem_replicate] at this
      rw [this] at S
      exact S
    · (try simp (maxSteps := 1000000) (disch := first | omega | assumption | exact Nat.le_of_ble_eq_true rfl) only [go_sem, ↓mwp_block, simprocAttr, e18])
      omega
  · obtain rfl : i = n := by omega
    rw [Nat.sub_self, List.replicate_zero, List.append_nil, List.take_of_length_le (by rw [List.length_replicate]; exact Nat.le_refl _)] at S
    have harr := S.arr zEnc_len
    have hln : (List.replicate i (1 : Int)).length = i := List.length_replicate ..
    by_cases hask : askS sum (List.replicate i 1) = 0
    · obtain ⟨_, _, _, hs0, hs1, _, _⟩ := ask0 hask
      obtain ⟨k, rfl⟩ : ∃ k : Nat, sum = k := ⟨sum.toNat, by omega⟩
      have hmap : (List.replicate i 1).map Int.ofNat = List.replicate i (1 : Int) := List.map_replicate
      have hsh := Shares_ok (h0 := h0) (h := h) (A := some ⟨b, 0, none⟩) (c := c) (l := ownA zEnc 1 2 (.slice (some ⟨b, 0, none⟩) i c) (List.replicate i 1) :: l) k (List.replicate i 1) (fun h' S => by rw [hmap]; exact S.arr zEnc_len) (by rw [hmap]; exact hask) (by rw [sum_ones]; exact hn1) S
      rw [List.length_replicate] at hsh
      (try simp (maxSteps := 1000000) (disch := first | omega | assumption | exact Nat.le_of_ble_eq_true rfl) only [go_sem, ↓mwp_block, simprocAttr, e0, e6])
      refine call_intro hsh ?_
      clear S hsh harr
      rintro _ h ⟨s, out, rfl, hI, ho, S⟩
      (try simp (maxSteps := 1000000) (disch := first | omega | assumption | exact Nat.le_of_ble_eq_true rfl) only [go_sem, ↓mwp_block, simprocAttr])
      refine hK _ _ (.inr ⟨hask, s, out, rfl, ?_, by rw [hln]; exact ho, S.d1⟩)
      have he : effW (List.replicate i 1) = List.replicate i 1 := by
        have hsm := sumI (List.replicate i 1)
        rw [hmap, sum_ones] at hsm
        unfold effW
        rw [if_neg (by omega), List.map_replicate]
        rfl
      rw [he, Int.toNat_natCast]
      exact hI
    · have hsh := SharesE_ok (c := c) sum harr (by omega) hask
      rw [List.length_replicate] at hsh
      (try simp (maxSteps := 1000000) (disch := first | omega | assumption | exact Nat.le_of_ble_eq_true rfl) only [go_sem, ↓mwp_block, simprocAttr, e0, e6])
      refine call_intro hsh ?_
      rintro _ h ⟨rfl, rfl⟩
      (try simp (maxSteps := 1000000) (disch := first | omega | assumption | exact Nat.le_of_ble_eq_true rfl) only [go_sem, ↓mwp_block, simprocAttr])
      exact hK _ _ (.inl ⟨hask, rfl, S.tl⟩)
theorem SharesA_ok {A : Option Addr} {c : Nat} (sum : Int) (ws : List Int) (ha : ∀ h', St h0 h' l → Arr zEnc 1 h' A ws) (hl : ws.length < 1000000000) (S : St h0 h l) :
    CallsH Tryz.prog 68 [.int .i64 sum, .slice A ws.length c] h fun v h' => ShP h0 h' l sum ws v := by
  by_cases hask : askS sum ws = 0
  case neg =>
    refine (SharesE_ok sum (ha h S) hl hask).mono ?_
    rintro v h' ⟨rfl, rfl⟩
    exact .inl ⟨hask, rfl, S⟩
  obtain ⟨hw0, hw1, hf, hs0, hs1, hs2, hs3⟩ := ask0 hask
  by_cases hall : ws.sum = 0
  · have hA0 : askA sum ws = 0 := by rw [askA, if_pos hask, hall]
    (refine enterK c_split_Shares (Nat.le_of_ble_eq_true rfl) fun K hK => ?_; (try simp (maxSteps := 1000000) (disch := first | omega | assumption | exact Nat.le_of_ble_eq_true rfl) only [go_sem, ↓mwp_block, simprocAttr, ir_split_Shares]))
    refine call_intro (asked_ok sum (ha h S) hl) ?_
    rintro _ _ ⟨rfl, rfl⟩
    rw [hask, hA0]
    (try simp (maxSteps := 1000000) (disch := first | omega | assumption | exact Nat.le_of_ble_eq_true rfl) only [go_sem, ↓mwp_block, simprocAttr])
    refine call_intro (Each_ok sum ws.length hw0 hw1 S) ?_
    clear S
    have ho : askS sum (List.replicate ws.length 1) = 0 := by
      rw [ask_ones hw0 hw1, if_neg (by omega)]
    rintro _ h (⟨hn, _⟩ | ⟨_, s, out, rfl, hI, hlo, S⟩)
    · exact (hn ho).elim
    (try simp (maxSteps := 1000000) (disch := first | omega | assumption | exact Nat.le_of_ble_eq_true rfl) only [go_sem, ↓mwp_block, simprocAttr])
    refine hK _ _ (.inr ⟨hask, s, out, rfl, ?_, by rw [hlo, List.length_replicate], S⟩)
    have he : effW (List.replicate ws.length 1) = effW ws := by
      have hmap : (List.replicate ws.length 1).map Int.ofNat = List.replicate ws.length (1 : Int) := List.map_replicate
      have hsm := sumI (List.replicate ws.length 1)
      rw [hmap, sum_ones] at hsm
      unfold effW
      rw [if_neg (by omega), if_pos hall, List.map_replicate]
      rfl
    rw [← he]
    exact hI
  · have hbk := toNat_back hf
    obtain ⟨k, rfl⟩ : ∃ k : Nat, sum = k := ⟨sum.toNat, by omega⟩
    have hsum := sumI (ws.map Int.toNat)
    rw [hbk] at hsum
    have hsh := Shares_ok (h0 := h0) (h := h) (A := A) (c := c) (l := l) k (ws.map Int.toNat) (by rw [hbk]; exact ha) (by rw [hbk]; exact hask) (by omega) S
    rw [List.length_map] at hsh
    refine hsh.mono ?_
    rintro v h' ⟨s, out, rfl, hI, hlo, S⟩
    refine .inr ⟨hask, s, out, rfl, ?_, hlo, S⟩
    have he : effW ws = ws.map Int.toNat := by unfold effW; rw [if_neg hall]
    rw [he]
    exact hI
end
end Go.Proofs.YtblalmgahfbalaaGreat.MX

/- Split: the reference's Asked and Part, and Same. -/
namespace Go.Proofs.YtblalmgahfbalaaGreat.MX
open Go Go.Proofs
set_option linter.unusedSimpArgs false
set_option linter.unusedVariables false
set_option maxHeartbeats 8000000
section
variable {h : Heap}
theorem RPart_ok (a n of : Nat) (ha : a ≤ 1125899906842624) (hn : n ≤ of) (h0 : 0 < of) (hof : of ≤ 1125899906842624) (h : Heap) :
    CallsH Tryz.prog 26 [.int .i64 a, .int .i64 n, .int .i64 of] h fun v h' => v = .tuple #[.int .i64 (a * n / of : Nat), .int .i64 0] ∧ h' = h := by
  have c1 : ¬ (a : Int) < 0 := by omega
  have c2 : ¬ (1125899906842624 : Int) < a := by omega
  have c3 : ¬ (of : Int) < 1 := by omega
  have c4 : ¬ (n : Int) < 0 := by omega
  have c5 : ¬ (of : Int) < n := by omega
  (refine enterK c_recoupref05_Part (Nat.le_of_ble_eq_true rfl) fun K hK => ?_; (try simp (maxSteps := 1000000) (disch := first | omega | assumption | exact Nat.le_of_ble_eq_true rfl) only [go_sem, ↓mwp_block, simprocAttr, ir_recoupref05_Part]))
  (try simp (maxSteps := 1000000) (disch := first | omega | assumption | exact Nat.le_of_ble_eq_true rfl) only [go_sem, ↓mwp_block, simprocAttr, c1, c2, c3, c4, c5])
  refine call_intro (divided_ok a n of ha hn h0 hof _) ?_
  rintro _ _ ⟨rfl, rfl⟩
  (try simp (maxSteps := 1000000) (disch := first | omega | assumption | exact Nat.le_of_ble_eq_true rfl) only [go_sem, ↓mwp_block, simprocAttr])
  exact hK _ _ ⟨rfl, rfl⟩
end
end Go.Proofs.YtblalmgahfbalaaGreat.MX

/- Cents: a part of a sum. -/
namespace Go.Proofs.YtblalmgahfbalaaGreat.MX
open Go Go.Proofs
set_option linter.unusedSimpArgs false
set_option linter.unusedVariables false
set_option maxHeartbeats 4000000
def partV (a n of : Int) : Int × Int := if a < 0 ∨ 1125899906842624 < a then (0, 9) else if of < 1 ∨ n < 0 ∨ of < n then (0, 1) else (a * n / of, 0)
theorem CPart_ok (a n of : Int) (ha : I64 a) (hn : I64 n) (ho : I64 of) (h : Heap) : CallsH Tryz.prog 89 [.int .i64 a, .int .i64 n, .int .i64 of] h fun v h' => v = .tuple #[.int .i64 (partV a n of).1, .int .i64 (partV a n of).2] ∧ h' = h := by
  obtain ⟨ha1, ha2⟩ := ha
  obtain ⟨hn1, hn2⟩ := hn
  obtain ⟨ho1, ho2⟩ := ho
  have hdef : partV a n of = if a < 0 ∨ 1125899906842624 < a then (0, 9) else if of < 1 ∨ n < 0 ∨ of < n then (0, 1) else (a * n / of, 0) := rfl
  by_cases c1 : a < 0
  · rw [if_pos (.inl c1)] at hdef
    rw [hdef]
    (refine enterK c_cents_Part (Nat.le_of_ble_eq_true rfl) fun K hK => ?_; (try simp (maxSteps := 1000000) (disch := first | omega | assumption | exact Nat.le_of_ble_eq_true rfl) only [go_sem, ↓mwp_block, simprocAttr, ir_cents_Part]))
    (try simp (maxSteps := 1000000) (disch := first | omega | assumption | exact Nat.le_of_ble_eq_true rfl) only [go_sem, ↓mwp_block, simprocAttr, c1])
    exact hK _ _ ⟨rfl, rfl⟩
  by_cases c2 : 1125899906842624 < a
  · rw [if_pos (.inr c2)] at hdef
    rw [hdef]
    (refine enterK c_cents_Part (Nat.le_of_ble_eq_true rfl) fun K hK => ?_; (try simp (maxSteps := 1000000) (disch := first | omega | assumption | exact Nat.le_of_ble_eq_true rfl) only [go_sem, ↓mwp_block, simprocAttr, ir_cents_Part]))
    (try simp (maxSteps := 1000000) (disch := first | omega | assumption | exact Nat.le_of_ble_eq_true rfl) only [go_sem, ↓mwp_block, simprocAttr, c1, c2])
    exact hK _ _ ⟨rfl, rfl⟩
  rw [if_neg (fun h => h.elim c1 c2)] at hdef
  by_cases c3 : of < 1
  · rw [if_pos (.inl c3)] at hdef
    rw [hdef]
    (refine enterK c_cents_Part (Nat.le_of_ble_eq_true rfl) fun K hK => ?_; (try simp (maxSteps := 1000000) (disch := first | omega | assumption | exact Nat.le_of_ble_eq_true rfl) only [go_sem, ↓mwp_block, simprocAttr, ir_cents_Part]))
    (try simp (maxSteps := 1000000) (disch := first | omega | assumption | exact Nat.le_of_ble_eq_true rfl) only [go_sem, ↓mwp_block, simprocAttr, c1, c2, c3])
    exact hK _ _ ⟨rfl, rfl⟩
  by_cases c4 : n < 0
  · rw [if_pos (.inr (.inl c4))] at hdef
    rw [hdef]
    (refine enterK c_cents_Part (Nat.le_of_ble_eq_true rfl) fun K hK => ?_; (try simp (maxSteps := 1000000) (disch := first | omega | assumption | exact Nat.le_of_ble_eq_true rfl) only [go_sem, ↓mwp_block, simprocAttr, ir_cents_Part]))
    (try simp (maxSteps := 1000000) (disch := first | omega | assumption | exact Nat.le_of_ble_eq_true rfl) only [go_sem, ↓mwp_block, simprocAttr, c1, c2, c3, c4])
    exact hK _ _ ⟨rfl, rfl⟩
  by_cases c5 : of < n
  · rw [if_pos (.inr (.inr c5))] at hdef
    rw [hdef]
    (refine enterK c_cents_Part (Nat.le_of_ble_eq_true rfl) fun K hK => ?_; (try simp (maxSteps := 1000000) (disch := first | omega | assumption | exact Nat.le_of_ble_eq_true rfl) only [go_sem, ↓mwp_block, simprocAttr, ir_cents_Part]))
    (try simp (maxSteps := 1000000) (disch := first | omega | assumption | exact Nat.le_of_ble_eq_true rfl) only [go_sem, ↓mwp_block, simprocAttr, c1, c2, c3, c4, c5])
    exact hK _ _ ⟨rfl, rfl⟩
  rw [if_neg (fun h => h.elim c3 (fun h => h.elim c4 c5))] at hdef
  rw [hdef]
  obtain ⟨x, rfl⟩ := Int.eq_ofNat_of_zero_le (show 0 ≤ a by omega)
  obtain ⟨y, rfl⟩ := Int.eq_ofNat_of_zero_le (show 0 ≤ n by omega)
  obtain ⟨z, rfl⟩ := Int.eq_ofNat_of_zero_le (show 0 ≤ of by omega)
  have hxy : x * y ≤ x * z := Nat.mul_le_mul_left _ (by omega)
  have hq : x * y / z ≤ x := Nat.div_le_of_le_mul (by rw [Nat.mul_comm z x]; exact hxy)
  have hhi : x * y / 18446744073709551616 < z := by
    rw [Nat.div_lt_iff_lt_mul (by decide)]
    have : x * z ≤ 1125899906842624 * z := Nat.mul_le_mul_right _ (by omega)
    omega
  have hdm : x * y / 18446744073709551616 * 18446744073709551616 + x * y % 18446744073709551616 = x * y := by omega
  (refine enterK c_cents_Part (Nat.le_of_ble_eq_true rfl) fun K hK => ?_; (try simp (maxSteps := 1000000) (disch := first | omega | assumption | exact Nat.le_of_ble_eq_true rfl) only [go_sem, ↓mwp_block, simprocAttr, ir_cents_Part]))
  (try simp (maxSteps := 1000000) (disch := first | omega | assumption | exact Nat.le_of_ble_eq_true rfl) only [go_sem, ↓mwp_block, simprocAttr, c1, c2, c3, c4, c5])
  refine call_intro (Mul64_ok x y (by omega) (by omega) _) ?_
  rintro _ _ ⟨rfl, rfl⟩
  (try simp (maxSteps := 1000000) (disch := first | omega | assumption | exact Nat.le_of_ble_eq_true rfl) only [go_sem, ↓mwp_block, simprocAttr])
  refine call_intro (Div64_ok _ _ z hhi (by omega) (Nat.mod_lt _ (by decide)) _) ?_
  rintro _ _ ⟨rfl, rfl⟩
  rw [hdm]
  (try simp (maxSteps := 1000000) (disch := first | omega | assumption | exact Nat.le_of_ble_eq_true rfl) only [go_sem, ↓mwp_block, simprocAttr])
  refine hK _ _ ⟨?_, rfl⟩
  have e : (x : Int) * y / z = ((x * y / z : Nat) : Int) := by rw [Int.natCast_ediv, Int.natCast_mul]
  have hqx : ((x * y / z : Nat) : Int) ≤ x := Int.ofNat_le.2 hq
  have hq0 : (0 : Int) ≤ ((x * y / z : Nat) : Int) := Int.natCast_nonneg _
  rw [e]
  generalize ((x * y / z : Nat) : Int) = w at *
  rw [wrap_i64 (by omega) (by omega)]
theorem Points_ok (a k : Int) (ha : I64 a) (hk : I64 k) (h : Heap) : CallsH Tryz.prog 71 [.int .i64 a, .int .i64 k] h fun v h' => v = .tuple #[.int .i64 (partV a k 10000).1, .int .i64 (partV a k 10000).2] ∧ h' = h := by
  obtain ⟨hk1, hk2⟩ := id hk
  (refine enterK c_cents_Points (Nat.le_of_ble_eq_true rfl) fun K hK => ?_; (try simp (maxSteps := 1000000) (disch := first | omega | assumption | exact Nat.le_of_ble_eq_true rfl) only [go_sem, ↓mwp_block, simprocAttr, ir_cents_Points]))
  refine call_intro (CPart_ok a k 10000 ha hk ⟨by decide, by decide⟩ _) ?_
  rintro _ _ ⟨rfl, rfl⟩
  (try simp (maxSteps := 1000000) (disch := first | omega | assumption | exact Nat.le_of_ble_eq_true rfl) only [go_sem, ↓mwp_block, simprocAttr])
  exact hK _ _ ⟨rfl, rfl⟩
end Go.Proofs.YtblalmgahfbalaaGreat.MX

/- What is written: numbers and bytes put behind each other (codec.Out). -/
namespace Go.Proofs.YtblalmgahfbalaaGreat.MX
open Go Go.Proofs
set_option linter.unusedSimpArgs false
set_option linter.unusedVariables false

end Go.Proofs.YtblalmgahfbalaaGreat.MX

/- Policies: which are right, by the program and by the document. -/
namespace Go.Proofs.YtblalmgahfbalaaGreat.MX
open Go Go.Proofs
set_option linter.unusedSimpArgs false
set_option linter.unusedVariables false

/-- A policy's cells. -/
structure Pol where
  w : Int
  fin : Bool
  exc : Bool
  cre : Bool
  f0 : Int
  f1 : Int
  f2 : Int
  f3 : Int
  s0 : Int
  t0 : Int
  s1 : Int
  t1 : Int
  s2 : Int
  t2 : Int
  s3 : Int
  t3 : Int
  deriving DecidableEq, Inhabited
def Pol.enc (p : Pol) : List Value := [.int .i64 p.w, .bool p.fin, .bool p.exc, .bool p.cre, .int .i64 p.f0, .int .i64 p.f1, .int .i64 p.f2, .int .i64 p.f3, .int .i64 p.s0, .int .i64 p.t0, .int .i64 p.s1, .int .i64 p.t1, .int .i64 p.s2, .int .i64 p.t2, .int .i64 p.s3, .int .i64 p.t3]
def Pol.zero : Pol := ⟨0, false, false, false, 0, 0, 0, 0, 0, 0, 0, 0, 0, 0, 0, 0⟩
theorem Pol.enc_len (p : Pol) : p.enc.length = 16 := rfl
theorem Pol.enc_plain (p : Pol) : plainCells p.enc = true := rfl
def okPts (n : Int) : Prop := 0 ≤ n ∧ n ≤ 10000
def okGrade (s t : Int) : Prop := okPts s ∧ (t = 0 ∧ s = 0 ∨ 3 ≤ t ∧ t ≤ 5)
def Pol.right (p : Pol) : Prop := (okPts p.f0 ∧ okPts p.f1 ∧ okPts p.f2 ∧ okPts p.f3) ∧ (okGrade p.s0 p.t0 ∧ okGrade p.s1 p.t1 ∧ okGrade p.s2 p.t2 ∧ okGrade p.s3 p.t3) ∧ 0 ≤ p.w ∧ p.w ≤ 1000

theorem cond_decn {p : Prop} {X Y : Prop} {s : Tag X} {t : Tag Y} (hx : ¬ p → X) (hy : p → Y) : condT (.bool (!dcd p)) X Y s t := by
  by_cases h : p
  · rw [dcd_true h]; simp only [condT, condW, Bool.not_true, Bool.false_eq_true, if_false]; exact hy h
  · rw [dcd_false h]; simp only [condT, condW, Bool.not_false, if_true]; exact hx h

theorem points_ok (n : Int) (h : Heap) : CallsH Tryz.prog 91 [.int .i64 n] h fun v h' => v = .bool (dcd (okPts n)) ∧ h' = h := by
  by_cases hp : okPts n
  · (refine enterK c_table_points (Nat.le_of_ble_eq_true rfl) fun K hK => ?_; (try simp (maxSteps := 1000000) (disch := first | omega | assumption | exact Nat.le_of_ble_eq_true rfl) only [go_sem, ↓mwp_block, simprocAttr, ir_table_points]))
    have := hp.1
    have := hp.2
    (try simp (maxSteps := 1000000) (disch := first | omega | assumption | exact Nat.le_of_ble_eq_true rfl) only [go_sem, ↓mwp_block, simprocAttr])
    exact hK _ _ ⟨by rw [dcd_true hp], rfl⟩
  · by_cases h0 : 0 ≤ n
    · have : ¬ n ≤ 10000 := fun h1 => hp ⟨h0, h1⟩
      (refine enterK c_table_points (Nat.le_of_ble_eq_true rfl) fun K hK => ?_; (try simp (maxSteps := 1000000) (disch := first | omega | assumption | exact Nat.le_of_ble_eq_true rfl) only [go_sem, ↓mwp_block, simprocAttr, ir_table_points]))
      (try simp (maxSteps := 1000000) (disch := first | omega | assumption | exact Nat.le_of_ble_eq_true rfl) only [go_sem, ↓mwp_block, simprocAttr])
      exact hK _ _ ⟨by rw [dcd_false hp], rfl⟩
    · (refine enterK c_table_points (Nat.le_of_ble_eq_true rfl) fun K hK => ?_; (try simp (maxSteps := 1000000) (disch := first | omega | assumption | exact Nat.le_of_ble_eq_true rfl) only [go_sem, ↓mwp_block, simprocAttr, ir_table_points]))
      (try simp (maxSteps := 1000000) (disch := first | omega | assumption | exact Nat.le_of_ble_eq_true rfl) only [go_sem, ↓mwp_block, simprocAttr, h0])
      exact hK _ _ ⟨by rw [dcd_false hp], rfl⟩
theorem refPoints_ok (n : Int) (h : Heap) : CallsH Tryz.prog 73 [.int .i64 n] h fun v h' => v = .bool (dcd (okPts n)) ∧ h' = h := by
  by_cases hp : okPts n
  · (refine enterK c_recoupref05_points (Nat.le_of_ble_eq_true rfl) fun K hK => ?_; (try simp (maxSteps := 1000000) (disch := first | omega | assumption | exact Nat.le_of_ble_eq_true rfl) only [go_sem, ↓mwp_block, simprocAttr, ir_recoupref05_points]))
    have := hp.1
    have := hp.2
    (try simp (maxSteps := 1000000) (disch := first | omega | assumption | exact Nat.le_of_ble_eq_true rfl) only [go_sem, ↓mwp_block, simprocAttr])
    exact hK _ _ ⟨by rw [dcd_true hp], rfl⟩
  · by_cases h0 : 0 ≤ n
    · have : ¬ n ≤ 10000 := fun h1 => hp ⟨h0, h1⟩
      (refine enterK c_recoupref05_points (Nat.le_of_ble_eq_true rfl) fun K hK => ?_; (try simp (maxSteps := 1000000) (disch := first | omega | assumption | exact Nat.le_of_ble_eq_true rfl) only [go_sem, ↓mwp_block, simprocAttr, ir_recoupref05_points]))
      (try simp (maxSteps := 1000000) (disch := first | omega | assumption | exact Nat.le_of_ble_eq_true rfl) only [go_sem, ↓mwp_block, simprocAttr])
      exact hK _ _ ⟨by rw [dcd_false hp], rfl⟩
    · (refine enterK c_recoupref05_points (Nat.le_of_ble_eq_true rfl) fun K hK => ?_; (try simp (maxSteps := 1000000) (disch := first | omega | assumption | exact Nat.le_of_ble_eq_true rfl) only [go_sem, ↓mwp_block, simprocAttr, ir_recoupref05_points]))
      (try simp (maxSteps := 1000000) (disch := first | omega | assumption | exact Nat.le_of_ble_eq_true rfl) only [go_sem, ↓mwp_block, simprocAttr, h0])
      exact hK _ _ ⟨by rw [dcd_false hp], rfl⟩

theorem grade_ok (s t : Int) (h : Heap) : CallsH Tryz.prog 92 [.agg (List.toArray [.int .i64 s, .int .i64 t])] h fun v h' => v = .bool (dcd (okGrade s t)) ∧ Fr h h' [] := by
  have S := St.nil h
  (refine enterK c_table_rightGrade (Nat.le_of_ble_eq_true rfl) fun K hK => ?_; (try simp (maxSteps := 1000000) (disch := first | omega | assumption | exact Nat.le_of_ble_eq_true rfl) only [go_sem, ↓mwp_block, simprocAttr, ir_table_rightGrade]))
  (refine st_alloc S ?_; clear S; intro b h S; (try simp only [splice_cons, splice_nil, List.set_cons_zero, List.set_cons_succ, Nat.zero_add, Nat.reduceAdd, List.cons_append, List.nil_append] at S); ((try clear F); have F := S.all; (try simp only [all_cons, all_nil, says_cell, and_true] at F)))
  (try simp (maxSteps := 1000000) (disch := first | omega | assumption | exact Nat.le_of_ble_eq_true rfl) only [go_sem, ↓mwp_block, simprocAttr, F])
  refine call_intro (points_ok s _) ?_
  rintro _ _ ⟨rfl, rfl⟩
  by_cases hs : okPts s
  · by_cases h1 : t = 0
    · by_cases h2 : s = 0
      · (try simp (maxSteps := 1000000) (disch := first | omega | assumption | exact Nat.le_of_ble_eq_true rfl) only [go_sem, ↓mwp_block, simprocAttr, F])
        exact hK _ _ ⟨by rw [dcd_true]; exact ⟨hs, .inl ⟨h1, h2⟩⟩, S.fr⟩
      · (try simp (maxSteps := 1000000) (disch := first | omega | assumption | exact Nat.le_of_ble_eq_true rfl) only [go_sem, ↓mwp_block, simprocAttr, F])
        exact hK _ _ ⟨by rw [dcd_false]; rintro ⟨_, h | h⟩ <;> omega, S.fr⟩
    · by_cases h3 : 3 ≤ t
      · by_cases h5 : t ≤ 5
        · (try simp (maxSteps := 1000000) (disch := first | omega | assumption | exact Nat.le_of_ble_eq_true rfl) only [go_sem, ↓mwp_block, simprocAttr, F])
          exact hK _ _ ⟨by rw [dcd_true ⟨hs, .inr ⟨h3, h5⟩⟩], S.fr⟩
        · (try simp (maxSteps := 1000000) (disch := first | omega | assumption | exact Nat.le_of_ble_eq_true rfl) only [go_sem, ↓mwp_block, simprocAttr, F])
          exact hK _ _ ⟨by rw [dcd_false]; rintro ⟨_, h | h⟩ <;> omega, S.fr⟩
      · (try simp (maxSteps := 1000000) (disch := first | omega | assumption | exact Nat.le_of_ble_eq_true rfl) only [go_sem, ↓mwp_block, simprocAttr, F])
        exact hK _ _ ⟨by rw [dcd_false]; rintro ⟨_, h | h⟩ <;> omega, S.fr⟩
  · (try simp (maxSteps := 1000000) (disch := first | omega | assumption | exact Nat.le_of_ble_eq_true rfl) only [go_sem, ↓mwp_block, simprocAttr, F])
    exact hK _ _ ⟨by rw [dcd_false]; exact fun h => hs h.1, S.fr⟩

set_option maxHeartbeats 4000000 in
theorem right_ok (p : Pol) (h : Heap) : CallsH Tryz.prog 79 [.agg p.enc.toArray] h fun v h' => v = .bool (dcd p.right) ∧ Fr h h' [] := by
  have S := St.nil h
  (refine enterK c_table_right (Nat.le_of_ble_eq_true rfl) fun K hK => ?_; (try simp (maxSteps := 1000000) (disch := first | omega | assumption | exact Nat.le_of_ble_eq_true rfl) only [go_sem, ↓mwp_block, simprocAttr, ir_table_right]))
  (refine st_alloc S ?_; clear S; intro b h S; (try simp only [splice_cons, splice_nil, List.set_cons_zero, List.set_cons_succ, Nat.zero_add, Nat.reduceAdd, List.cons_append, List.nil_append] at S); ((try clear F); have F := S.all; (try simp only [all_cons, all_nil, says_cell, and_true] at F)))
  (try simp (maxSteps := 1000000) (disch := first | omega | assumption | exact Nat.le_of_ble_eq_true rfl) only [go_sem, ↓mwp_block, simprocAttr, F, Pol.enc])
  refine loop_unroll 5 ?_
  (try simp (maxSteps := 1000000) (disch := first | omega | assumption | exact Nat.le_of_ble_eq_true rfl) only [go_sem, ↓mwp_block, simprocAttr])
  iterate 4
    refine call_intro (points_ok _ _) ?_
    rintro _ _ ⟨rfl, rfl⟩
    (try simp (maxSteps := 1000000) (disch := first | omega | assumption | exact Nat.le_of_ble_eq_true rfl) only [go_sem, ↓mwp_block, simprocAttr])
    refine cond_decn (fun hn => by (try simp (maxSteps := 1000000) (disch := first | omega | assumption | exact Nat.le_of_ble_eq_true rfl) only [go_sem, ↓mwp_block, simprocAttr]); exact hK _ _ ⟨by rw [dcd_false]; exact fun h => hn (by first | exact h.1.1 | exact h.1.2.1 | exact h.1.2.2.1 | exact h.1.2.2.2), S.fr⟩) (fun hp => ?_)
    (try simp (maxSteps := 1000000) (disch := first | omega | assumption | exact Nat.le_of_ble_eq_true rfl) only [go_sem, ↓mwp_block, simprocAttr])
  (try simp (maxSteps := 1000000) (disch := first | omega | assumption | exact Nat.le_of_ble_eq_true rfl) only [go_sem, ↓mwp_block, simprocAttr, F, Pol.enc])
  refine loop_unroll 5 ?_
  (try simp (maxSteps := 1000000) (disch := first | omega | assumption | exact Nat.le_of_ble_eq_true rfl) only [go_sem, ↓mwp_block, simprocAttr])
  iterate 4
    (refine st_alloc S ?_; clear S; intro g h S; (try simp only [splice_cons, splice_nil, List.set_cons_zero, List.set_cons_succ, Nat.zero_add, Nat.reduceAdd, List.cons_append, List.nil_append] at S); ((try clear F); have F := S.all; (try simp only [all_cons, all_nil, says_cell, and_true] at F)))
    (try simp (maxSteps := 1000000) (disch := first | omega | assumption | exact Nat.le_of_ble_eq_true rfl) only [go_sem, ↓mwp_block, simprocAttr, F])
    (refine st_store (by first | exact S | exact S.p1 | exact S.p2 | exact S.p3 | exact S.p4 | exact S.p5 | exact S.p6 | exact S.p7 | exact S.p8 | exact S.p9 | exact S.p10 | exact S.p11) (by rfl) (by rfl) (Nat.le_of_ble_eq_true rfl) ?_; clear S; intro h S; (try simp only [splice_cons, splice_nil, List.set_cons_zero, List.set_cons_succ, Nat.zero_add, Nat.reduceAdd, List.cons_append, List.nil_append] at S); ((try clear F); have F := S.all; (try simp only [all_cons, all_nil, says_cell, and_true] at F)))
    (try simp (maxSteps := 1000000) (disch := first | omega | assumption | exact Nat.le_of_ble_eq_true rfl) only [go_sem, ↓mwp_block, simprocAttr, F])
    refine call_intro (grade_ok _ _ _) ?_
    rintro _ h ⟨rfl, hf⟩
    have S := S.frame hf
    ((try clear F); have F := S.all; (try simp only [all_cons, all_nil, says_cell, and_true] at F))
    (try simp (maxSteps := 1000000) (disch := first | omega | assumption | exact Nat.le_of_ble_eq_true rfl) only [go_sem, ↓mwp_block, simprocAttr])
    refine cond_decn (fun hn => by (try simp (maxSteps := 1000000) (disch := first | omega | assumption | exact Nat.le_of_ble_eq_true rfl) only [go_sem, ↓mwp_block, simprocAttr]); exact hK _ _ ⟨by rw [dcd_false]; exact fun h => hn (by first | exact h.2.1.1 | exact h.2.1.2.1 | exact h.2.1.2.2.1 | exact h.2.1.2.2.2), S.fr⟩) (fun hp => ?_)
    (try simp (maxSteps := 1000000) (disch := first | omega | assumption | exact Nat.le_of_ble_eq_true rfl) only [go_sem, ↓mwp_block, simprocAttr])
  (try simp (maxSteps := 1000000) (disch := first | omega | assumption | exact Nat.le_of_ble_eq_true rfl) only [go_sem, ↓mwp_block, simprocAttr, F, Pol.enc])
  by_cases h0 : 0 ≤ p.w
  · by_cases h1 : p.w ≤ 1000
    · (try simp (maxSteps := 1000000) (disch := first | omega | assumption | exact Nat.le_of_ble_eq_true rfl) only [go_sem, ↓mwp_block, simprocAttr, F, Pol.enc, h0, h1])
      refine hK _ _ ⟨?_, S.fr⟩
      rw [dcd_true]
      exact ⟨⟨by assumption, by assumption, by assumption, by assumption⟩, ⟨by assumption, by assumption, by assumption, by assumption⟩, h0, h1⟩
    · (try simp (maxSteps := 1000000) (disch := first | omega | assumption | exact Nat.le_of_ble_eq_true rfl) only [go_sem, ↓mwp_block, simprocAttr, F, Pol.enc, h0, h1])
      exact hK _ _ ⟨by rw [dcd_false]; exact fun h => h1 h.2.2.2, S.fr⟩
  · (try simp (maxSteps := 1000000) (disch := first | omega | assumption | exact Nat.le_of_ble_eq_true rfl) only [go_sem, ↓mwp_block, simprocAttr, F, Pol.enc, h0])
    exact hK _ _ ⟨by rw [dcd_false]; exact fun h => h0 h.2.2.1, S.fr⟩

theorem rightAsk {h : Heap} : Asks Tryz.prog Pol.enc h [] (.func (.func 78) #[] (List.toArray [])) fun p => !dcd p.right := by
  refine ⟨_, _, rfl, ok_table_Right_1, fun x h hf => ?_⟩
  have S := St.nil h
  (refine enterK c_table_Right_1 (Nat.le_of_ble_eq_true rfl) fun K hK => ?_; (try simp (maxSteps := 1000000) (disch := first | omega | assumption | exact Nat.le_of_ble_eq_true rfl) only [go_sem, ↓mwp_block, simprocAttr, ir_table_Right_1]))
  (refine st_alloc S ?_; clear S; intro b h S; (try simp only [splice_cons, splice_nil, List.set_cons_zero, List.set_cons_succ, Nat.zero_add, Nat.reduceAdd, List.cons_append, List.nil_append] at S); ((try clear F); have F := S.all; (try simp only [all_cons, all_nil, says_cell, and_true] at F)))
  (try simp (maxSteps := 1000000) (disch := first | omega | assumption | exact Nat.le_of_ble_eq_true rfl) only [go_sem, ↓mwp_block, simprocAttr, F, Pol.enc])
  refine call_intro (right_ok x _) ?_
  rintro _ h ⟨rfl, hf⟩
  (try simp (maxSteps := 1000000) (disch := first | omega | assumption | exact Nat.le_of_ble_eq_true rfl) only [go_sem, ↓mwp_block, simprocAttr])
  exact hK _ _ ⟨rfl, (S.frame hf).fr⟩

def RightT (l : List Pol) : Prop := l.length ≤ 16 ∧ ∀ p ∈ l, p.right
theorem ContainsP_ok {h : Heap} {A : Option Addr} {n c : Nat} {xs : List Pol} (ha : Arr Pol.enc 16 h A xs) (hn : n = xs.length) (hl : xs.length < 1000000) :
    CallsH Tryz.prog 77 [.slice A n c, .func (.func 78) #[] (List.toArray [])] h fun v h' => v = .bool (dcd (∃ p ∈ xs, ¬ p.right)) ∧ Fr h h' [] := by
  subst hn
  (refine enterK c_slices_ContainsFunc_api_Policy_api_Policy (Nat.le_of_ble_eq_true rfl) fun K hK => ?_; (try simp (maxSteps := 1000000) (disch := first | omega | assumption | exact Nat.le_of_ble_eq_true rfl) only [go_sem, ↓mwp_block, simprocAttr, ir_slices_ContainsFunc_api_Policy_api_Policy]))
  refine call_intro (indexFunc_ok (sz := 16) (p := fun m : Pol => !dcd m.right) c_slices_IndexFunc_api_Policy_api_Policy ha rfl (by omega) rightAsk) ?_
  rintro _ h1 ⟨rfl, hf⟩
  rcases idxOf_spec (fun m : Pol => !dcd m.right) xs 0 with ⟨hx, hall⟩ | ⟨i, hx, hil, hbef, hat⟩
  · have hx : idxOf (fun m : Pol => !dcd m.right) xs 0 = -1 := hx
    (try simp (maxSteps := 1000000) (disch := first | omega | assumption | exact Nat.le_of_ble_eq_true rfl) only [go_sem, ↓mwp_block, simprocAttr, hx])
    refine hK _ _ ⟨?_, hf⟩
    rw [dcd_false]
    rintro ⟨p, hp, hn⟩
    have := hall p hp
    rw [dcd_false hn] at this
    cases this
  · have hx : idxOf (fun m : Pol => !dcd m.right) xs 0 = (i : Int) := by simpa using hx
    (try simp (maxSteps := 1000000) (disch := first | omega | assumption | exact Nat.le_of_ble_eq_true rfl) only [go_sem, ↓mwp_block, simprocAttr, hx])
    refine hK _ _ ⟨?_, hf⟩
    have := hat xs[i] (List.getElem?_eq_getElem hil)
    rw [dcd_true]
    refine ⟨xs[i], List.getElem_mem hil, fun hr => ?_⟩
    rw [dcd_true hr] at this
    cases this

theorem Right_ok {h : Heap} {A : Option Addr} {n c : Nat} {xs : List Pol} (ha : Arr Pol.enc 16 h A xs) (hn : n = xs.length) (hl : xs.length < 1000000) :
    CallsH Tryz.prog 63 [.slice A n c] h fun v h' => v = .bool (dcd (RightT xs)) ∧ Fr h h' [] := by
  subst hn
  (refine enterK c_table_Right (Nat.le_of_ble_eq_true rfl) fun K hK => ?_; (try simp (maxSteps := 1000000) (disch := first | omega | assumption | exact Nat.le_of_ble_eq_true rfl) only [go_sem, ↓mwp_block, simprocAttr, ir_table_Right]))
  by_cases h16 : xs.length ≤ 16
  · (try simp (maxSteps := 1000000) (disch := first | omega | assumption | exact Nat.le_of_ble_eq_true rfl) only [go_sem, ↓mwp_block, simprocAttr, h16])
    refine call_intro (ContainsP_ok ha rfl hl) ?_
    rintro _ h1 ⟨rfl, hf⟩
    (try simp (maxSteps := 1000000) (disch := first | omega | assumption | exact Nat.le_of_ble_eq_true rfl) only [go_sem, ↓mwp_block, simprocAttr])
    refine hK _ _ ⟨?_, hf⟩
    by_cases hr : RightT xs
    · rw [dcd_true hr, dcd_false]
      · rfl
      · rintro ⟨p, hp, hn⟩; exact hn (hr.2 p hp)
    · rw [dcd_false hr, dcd_true]
      · rfl
      · apply Classical.byContradiction
        intro hn
        exact hr ⟨h16, fun p hp => Classical.byContradiction fun h => hn ⟨p, hp, h⟩⟩
  · (try simp (maxSteps := 1000000) (disch := first | omega | assumption | exact Nat.le_of_ble_eq_true rfl) only [go_sem, ↓mwp_block, simprocAttr, h16])
    exact hK _ _ ⟨by rw [dcd_false]; exact fun h => h16 h.1, Fr.refl _ _⟩
end Go.Proofs.YtblalmgahfbalaaGreat.MX
