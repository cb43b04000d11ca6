/- Split: Each, and Shares of any weights. -/
import Derived.Test.YtnjjdpeglkiifaaSp16
namespace Go.Proofs.Ytnjjdpeglkiifaa.MX
open Go Go.Proofs
set_option linter.unusedSimpArgs false
set_option linter.unusedVariables false
set_option maxHeartbeats 8000000
theorem sum_ones : ∀ n : Nat, (List.replicate n 1).sum = n
  | 0 => rfl
  | n + 1 => by rw [List.replicate_succ, List.sum_cons, sum_ones n]; omega
/-- The weights that count: if all are 0, each is 1. -/
def effW (ws : List Int) : List Nat := if ws.sum = 0 then List.replicate ws.length 1 else ws.map Int.toNat
theorem ask0 {sum : Int} {ws : List Int} (h : askE sum ws = 0) : 0 < ws.length ∧ ws.length ≤ 200 ∧ (∀ w ∈ ws, fitW w) ∧ 0 ≤ sum ∧ sum ≤ 1125899906842624 ∧ 0 ≤ ws.sum ∧ ws.sum ≤ 1125899906842624 := by
  unfold askE at h
  split at h
  · cases h
  · rename_i h1
    split at h
    · cases h
    · rename_i h2
      have hf : ∀ w ∈ ws, fitW w := Classical.byContradiction fun hn => h1 (.inr (.inr hn))
      have := sum_bound hf
      exact ⟨by omega, by omega, hf, by omega, by omega, by omega, by omega⟩
theorem toNat_back {ws : List Int} (h : ∀ w ∈ ws, fitW w) : (ws.map Int.toNat).map Int.ofNat = ws := by
  rw [List.map_map]
  conv => rhs; rw [← List.map_id ws]
  refine List.map_congr_left fun w hw => ?_
  have := h w hw
  unfold fitW at this
  show ((w.toNat : Nat) : Int) = w
  omega
theorem effW_len (ws : List Int) : (effW ws).length = ws.length := by
  unfold effW
  split
  · rw [List.length_replicate]
  · rw [List.length_map]
theorem effW_pos {sum : Int} {ws : List Int} (h : askE sum ws = 0) : 0 < (effW ws).sum ∧ (effW ws).sum ≤ 1125899906842624 := by
  obtain ⟨h1, h2, h3, h4, h5, h6, h7⟩ := ask0 h
  unfold effW
  split
  · rw [sum_ones]; omega
  · have := sumI (ws.map Int.toNat)
    rw [toNat_back h3] at this
    omega
theorem ask_ones {sum : Int} {n : Nat} (h1 : 0 < n) (h2 : n ≤ 200) : askE sum (List.replicate n 1) = if sum < 0 ∨ 1125899906842624 < sum then 9 else 0 := by
  have hs : (List.replicate n (1 : Int)).sum = n := by
    have := sumI (List.replicate n 1)
    rw [sum_ones, List.map_replicate] at this
    exact this
  unfold askE
  rw [List.length_replicate, if_neg (by
    rintro (h | h | h)
    · omega
    · omega
    · refine h fun w hw => ?_
      rw [List.mem_replicate] at hw
      rw [hw.2]
      exact ⟨by decide, by decide⟩), hs]
  by_cases hc : sum < 0 ∨ 1125899906842624 < sum
  · rw [if_pos (by omega), if_pos hc]
  · rw [if_neg (by omega), if_neg hc]
section
variable {h0 h : Heap} {l : List HP}
theorem SharesE_ok {A : Option Addr} {c : Nat} (sum : Int) {ws : List Int} (ha : Arr zEnc 1 h A ws) (hl : ws.length < 1000000000) (hask : askE sum ws ≠ 0) :
    CallsH Try.prog 28 [.int .i64 sum, .slice A ws.length c] h fun v h' => v = .tuple #[.slice none 0 0, .int .i64 (askE sum ws)] ∧ h' = h := by
  (refine enterK c_split_Shares (Nat.le_of_ble_eq_true rfl) fun K hK => ?_; (try simp (maxSteps := 1000000) (disch := first | omega | assumption | exact Nat.le_of_ble_eq_true rfl) only [go_sem, ↓mwp_block, simprocAttr, ir_split_Shares]))
  refine call_intro (asked_ok sum ha hl) ?_
  rintro _ _ ⟨rfl, rfl⟩
  (try simp (maxSteps := 1000000) (disch := first | omega | assumption | exact Nat.le_of_ble_eq_true rfl) only [go_sem, ↓mwp_block, simprocAttr, hask])
  exact hK _ _ ⟨rfl, rfl⟩
/-- What Shares answers. -/
def ShP (h0 h' : Heap) (l : List HP) (sum : Int) (ws : List Int) (v : Value) : Prop :=
  (askE sum ws ≠ 0 ∧ v = .tuple #[.slice none 0 0, .int .i64 (askE sum ws)] ∧ St h0 h' l) ∨
  (askE sum ws = 0 ∧ ∃ s out, v = .tuple #[s, .int .i64 0] ∧ IsShares sum.toNat (effW ws).sum (effW ws) out ∧ out.length = ws.length ∧ St h0 h' (ownA zEnc 1 2 s out :: l))
theorem Each_bad (sum n : Int) (hn : n < 1 ∨ 200 < n) (h : Heap) :
    CallsH Try.prog 33 [.int .i64 sum, .int .i64 n] h fun v h' => v = .tuple #[.slice none 0 0, .int .i64 1] ∧ h' = h := by
  by_cases h1 : n < 1
  · (refine enterK c_split_Each (Nat.le_of_ble_eq_true rfl) fun K hK => ?_; (try simp (maxSteps := 1000000) (disch := first | omega | assumption | exact Nat.le_of_ble_eq_true rfl) only [go_sem, ↓mwp_block, simprocAttr, ir_split_Each]))
    (try simp (maxSteps := 1000000) (disch := first | omega | assumption | exact Nat.le_of_ble_eq_true rfl) only [go_sem, ↓mwp_block, simprocAttr, h1])
    exact hK _ _ ⟨rfl, rfl⟩
  · have h2 : 200 < n := by omega
    (refine enterK c_split_Each (Nat.le_of_ble_eq_true rfl) fun K hK => ?_; (try simp (maxSteps := 1000000) (disch := first | omega | assumption | exact Nat.le_of_ble_eq_true rfl) only [go_sem, ↓mwp_block, simprocAttr, ir_split_Each]))
    (try simp (maxSteps := 1000000) (disch := first | omega | assumption | exact Nat.le_of_ble_eq_true rfl) only [go_sem, ↓mwp_block, simprocAttr, h1, h2])
    exact hK _ _ ⟨rfl, rfl⟩
theorem Each_ok (sum : Int) (n : Nat) (hn1 : 0 < n) (hn2 : n ≤ 200) (S : St h0 h l) :
    CallsH Try.prog 33 [.int .i64 sum, .int .i64 n] h fun v h' => ShP h0 h' l sum (List.replicate n 1) v := by
  have c1 : ¬ (n : Int) < 1 := by omega
  have c2 : ¬ (200 : Int) < n := by omega
  (refine enterK c_split_Each (Nat.le_of_ble_eq_true rfl) fun K hK => ?_; (try simp (maxSteps := 1000000) (disch := first | omega | assumption | exact Nat.le_of_ble_eq_true rfl) only [go_sem, ↓mwp_block, simprocAttr, ir_split_Each]))
  (try simp (maxSteps := 1000000) (disch := first | omega | assumption | exact Nat.le_of_ble_eq_true rfl) only [go_sem, ↓mwp_block, simprocAttr, c1, c2])
  refine st_make (0 : Int) zEnc_len rfl S (by omega) (by omega) ?_
  clear S
  intro v h S
  obtain ⟨A, c, rfl⟩ := S.sl
  rw [List.length_replicate] at S ⊢
  obtain ⟨b, rfl⟩ := S.ownAt (by rw [List.length_replicate]; omega)
  (try simp (maxSteps := 1000000) (disch := first | omega | assumption | exact Nat.le_of_ble_eq_true rfl) only [go_sem, ↓mwp_block, simprocAttr])
  refine loop_intro (fun ρ' h' => ρ' 0 = .int .i64 sum ∧ ρ' 6 = .slice (some ⟨b, 0, none⟩) n c ∧ ρ' 17 = .int .i64 n ∧ ∃ i : Nat, ρ' 18 = .int .i64 i ∧ i ≤ n ∧
    St h0 h' (ownA zEnc 1 2 (.slice (some ⟨b, 0, none⟩) n c) ((List.replicate n 1).take i ++ List.replicate (n - i) 0) :: l)) (fun ρ' _ => n - (iv (ρ' 18)).toNat) ?_ ?_
  · (try simp (maxSteps := 1000000) (disch := first | omega | assumption | exact Nat.le_of_ble_eq_true rfl) only [go_sem, ↓mwp_block, simprocAttr])
    exact ⟨0, rfl, by omega, S⟩
  clear S
  rintro ρ h J hJ ⟨e0, e6, e17, i, e18, hi, S⟩
  (try simp (maxSteps := 1000000) (disch := first | omega | assumption | exact Nat.le_of_ble_eq_true rfl) only [go_sem, ↓mwp_block, simprocAttr, e17, e18])
  refine cond_dec (fun hlt => ?_) (fun hlt => ?_)
  · have hil : i < n := by omega
    (try simp (maxSteps := 1000000) (disch := first | omega | assumption | exact Nat.le_of_ble_eq_true rfl) only [go_sem, ↓mwp_block, simprocAttr, e18, e6])
    refine st_setOwn (i := i) (x := 1) zEnc_len S (by rw [List.length_append, List.length_take, List.length_replicate, List.length_replicate]; omega) rfl rfl rfl rfl ?_
    clear S
    intro h S
    (try simp (maxSteps := 1000000) (disch := first | omega | assumption | exact Nat.le_of_ble_eq_true rfl) only [go_sem, ↓mwp_block, simprocAttr, e18])
    refine hJ _ _ ?_ ?_
    · (try simp (maxSteps := 1000000) (disch := first | omega | assumption | exact Nat.le_of_ble_eq_true rfl) only [go_sem, ↓mwp_block, simprocAttr, e0, e6, e17])
      refine ⟨i + 1, rfl, by omega, ?_⟩
      have := set_fill (List.replicate n (1 : Int)) 0 (List.length_replicate ..) hil
      rw [List.getElem_replicate] at this
      rw [this] at S
      exact S
    · (try simp (maxSteps := 1000000) (disch := first | omega | assumption | exact Nat.le_of_ble_eq_true rfl) only [go_sem, ↓mwp_block, simprocAttr, e18])
      omega
  · obtain rfl : i = n := by omega
    rw [Nat.sub_self, List.replicate_zero, List.append_nil, List.take_of_length_le (by rw [List.length_replicate]; exact Nat.le_refl _)] at S
    have harr := S.arr zEnc_len
    have hln : (List.replicate i (1 : Int)).length = i := List.length_replicate ..
    by_cases hask : askE sum (List.replicate i 1) = 0
    · obtain ⟨_, _, _, hs0, hs1, _, _⟩ := ask0 hask
      obtain ⟨k, rfl⟩ : ∃ k : Nat, sum = k := ⟨sum.toNat, by omega⟩
      have hmap : (List.replicate i 1).map Int.ofNat = List.replicate i (1 : Int) := List.map_replicate
      have hsh := Shares_ok (h0 := h0) (h := h) (A := some ⟨b, 0, none⟩) (c := c) (l := ownA zEnc 1 2 (.slice (some ⟨b, 0, none⟩) i c) (List.replicate i 1) :: l) k (List.replicate i 1) (fun h' S => by rw [hmap]; exact S.arr zEnc_len) (by rw [hmap]; exact hask) (by rw [sum_ones]; exact hn1) S
      rw [List.length_replicate] at hsh
      (try simp (maxSteps := 1000000) (disch := first | omega | assumption | exact Nat.le_of_ble_eq_true rfl) only [go_sem, ↓mwp_block, simprocAttr, e0, e6])
      refine call_intro hsh ?_
      clear S hsh harr
      rintro _ h ⟨s, out, rfl, hI, ho, S⟩
      (try simp (maxSteps := 1000000) (disch := first | omega | assumption | exact Nat.le_of_ble_eq_true rfl) only [go_sem, ↓mwp_block, simprocAttr])
      refine hK _ _ (.inr ⟨hask, s, out, rfl, ?_, by rw [hln]; exact ho, S.d1⟩)
      have he : effW (List.replicate i 1) = List.replicate i 1 := by
        have hsm := sumI (List.replicate i 1)
        rw [hmap, sum_ones] at hsm
        unfold effW
        rw [if_neg (by omega), List.map_replicate]
        rfl
      rw [he, Int.toNat_natCast]
      exact hI
    · have hsh := SharesE_ok (c := c) sum harr (by omega) hask
      rw [List.length_replicate] at hsh
      (try simp (maxSteps := 1000000) (disch := first | omega | assumption | exact Nat.le_of_ble_eq_true rfl) only [go_sem, ↓mwp_block, simprocAttr, e0, e6])
      refine call_intro hsh ?_
      rintro _ h ⟨rfl, rfl⟩
      (try simp (maxSteps := 1000000) (disch := first | omega | assumption | exact Nat.le_of_ble_eq_true rfl) only [go_sem, ↓mwp_block, simprocAttr])
      exact hK _ _ (.inl ⟨hask, rfl, S.tl⟩)
theorem SharesA_ok {A : Option Addr} {c : Nat} (sum : Int) (ws : List Int) (ha : ∀ h', St h0 h' l → Arr zEnc 1 h' A ws) (hl : ws.length < 1000000000) (S : St h0 h l) :
    CallsH Try.prog 28 [.int .i64 sum, .slice A ws.length c] h fun v h' => ShP h0 h' l sum ws v := by
  by_cases hask : askE sum ws = 0
  case neg =>
    refine (SharesE_ok sum (ha h S) hl hask).mono ?_
    rintro v h' ⟨rfl, rfl⟩
    exact .inl ⟨hask, rfl, S⟩
  obtain ⟨hw0, hw1, hf, hs0, hs1, hs2, hs3⟩ := ask0 hask
  by_cases hall : ws.sum = 0
  · have hA0 : askA sum ws = 0 := by rw [askA, if_pos hask, hall]
    (refine enterK c_split_Shares (Nat.le_of_ble_eq_true rfl) fun K hK => ?_; (try simp (maxSteps := 1000000) (disch := first | omega | assumption | exact Nat.le_of_ble_eq_true rfl) only [go_sem, ↓mwp_block, simprocAttr, ir_split_Shares]))
    refine call_intro (asked_ok sum (ha h S) hl) ?_
    rintro _ _ ⟨rfl, rfl⟩
    rw [hask, hA0]
    (try simp (maxSteps := 1000000) (disch := first | omega | assumption | exact Nat.le_of_ble_eq_true rfl) only [go_sem, ↓mwp_block, simprocAttr])
    refine call_intro (Each_ok sum ws.length hw0 hw1 S) ?_
    clear S
    have ho : askE sum (List.replicate ws.length 1) = 0 := by
      rw [ask_ones hw0 hw1, if_neg (by omega)]
    rintro _ h (⟨hn, _⟩ | ⟨_, s, out, rfl, hI, hlo, S⟩)
    · exact (hn ho).elim
    (try simp (maxSteps := 1000000) (disch := first | omega | assumption | exact Nat.le_of_ble_eq_true rfl) only [go_sem, ↓mwp_block, simprocAttr])
    refine hK _ _ (.inr ⟨hask, s, out, rfl, ?_, by rw [hlo, List.length_replicate], S⟩)
    have he : effW (List.replicate ws.length 1) = effW ws := by
      have hmap : (List.replicate ws.length 1).map Int.ofNat = List.replicate ws.length (1 : Int) := List.map_replicate
      have hsm := sumI (List.replicate ws.length 1)
      rw [hmap, sum_ones] at hsm
      unfold effW
      rw [if_neg (by omega), if_pos hall, List.map_replicate]
      rfl
    rw [← he]
    exact hI
  · have hbk := toNat_back hf
    obtain ⟨k, rfl⟩ : ∃ k : Nat, sum = k := ⟨sum.toNat, by omega⟩
    have hsum := sumI (ws.map Int.toNat)
    rw [hbk] at hsum
    have hsh := Shares_ok (h0 := h0) (h := h) (A := A) (c := c) (l := l) k (ws.map Int.toNat) (by rw [hbk]; exact ha) (by rw [hbk]; exact hask) (by omega) S
    rw [List.length_map] at hsh
    refine hsh.mono ?_
    rintro v h' ⟨s, out, rfl, hI, hlo, S⟩
    refine .inr ⟨hask, s, out, rfl, ?_, hlo, S⟩
    have he : effW ws = ws.map Int.toNat := by unfold effW; rw [if_neg hall]
    rw [he]
    exact hI
end
end Go.Proofs.Ytnjjdpeglkiifaa.MX
