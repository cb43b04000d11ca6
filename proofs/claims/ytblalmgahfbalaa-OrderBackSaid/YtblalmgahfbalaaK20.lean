/- Texts in one file: Sp17, Sp18, Tb5, Sp19. -/
import Derived.Test.YtblalmgahfbalaaK19
import Derived.Test.YtblalmgahfbalaaK13

/- Split: Each, and Shares of any weights. -/
namespace Go.Proofs.Ytblalmgahfbalaa.MX
open Go Go.Proofs
set_option linter.unusedSimpArgs false
set_option linter.unusedVariables false
set_option maxHeartbeats 8000000
theorem sum_ones : ∀ n : Nat, (List.replicate n 1).sum = n
  | 0 => rfl
  | n + 1 => by rw [List.replicate_succ, List.sum_cons, sum_ones n]; omega
/-- The weights that count: if all are 0, each is 1. -/
def effW (ws : List Int) : List Nat := if ws.sum = 0 then List.replicate ws.length 1 else ws.map Int.toNat
theorem ask0 {sum : Int} {ws : List Int} (h : askE sum ws = 0) : 0 < ws.length ∧ ws.length ≤ 200 ∧ (∀ w ∈ ws, fitW w) ∧ 0 ≤ sum ∧ sum ≤ 1125899906842624 ∧ 0 ≤ ws.sum ∧ ws.sum ≤ 1125899906842624 := by
  unfold askE at h
  split at h
  · cases h
  · rename_i h1
    split at h
    · cases h
    · rename_i h2
      have hf : ∀ w ∈ ws, fitW w := Classical.byContradiction fun hn => h1 (.inr (.inr hn))
      have := sum_bound hf
      exact ⟨by omega, by omega, hf, by omega, by omega, by omega, by omega⟩
theorem toNat_back {ws : List Int} (h : ∀ w ∈ ws, fitW w) : (ws.map Int.toNat).map Int.ofNat = ws := by
  rw [List.map_map]
  conv => rhs; rw [← List.map_id ws]
  refine List.map_congr_left fun w hw => ?_
  have := h w hw
  unfold fitW at this
  show ((w.toNat : Nat) : Int) = w
  omega
theorem effW_len (ws : List Int) : (effW ws).length = ws.length := by
  unfold effW
  split
  · rw [List.length_replicate]
  · rw [List.length_map]
theorem effW_pos {sum : Int} {ws : List Int} (h : askE sum ws = 0) : 0 < (effW ws).sum ∧ (effW ws).sum ≤ 1125899906842624 := by
  obtain ⟨h1, h2, h3, h4, h5, h6, h7⟩ := ask0 h
  unfold effW
  split
  · rw [sum_ones]; omega
  · have := sumI (ws.map Int.toNat)
    rw [toNat_back h3] at this
    omega
theorem ask_ones {sum : Int} {n : Nat} (h1 : 0 < n) (h2 : n ≤ 200) : askE sum (List.replicate n 1) = if sum < 0 ∨ 1125899906842624 < sum then 9 else 0 := by
  have hs : (List.replicate n (1 : Int)).sum = n := by
    have := sumI (List.replicate n 1)
    rw [sum_ones, List.map_replicate] at this
    exact this
  unfold askE
  rw [List.length_replicate, if_neg (by
    rintro (h | h | h)
    · omega
    · omega
    · refine h fun w hw => ?_
      rw [List.mem_replicate] at hw
      rw [hw.2]
      exact ⟨by decide, by decide⟩), hs]
  by_cases hc : sum < 0 ∨ 1125899906842624 < sum
  · rw [if_pos (by omega), if_pos hc]
  · rw [if_neg (by omega), if_neg hc]
section
variable {h0 h : Heap} {l : List HP}
theorem SharesE_ok {A : Option Addr} {c : Nat} (sum : Int) {ws : List Int} (ha : Arr zEnc 1 h A ws) (hl : ws.length < 1000000000) (hask : askE sum ws ≠ 0) :
    CallsH Try.prog 54 [.int .i64 sum, .slice A ws.length c] h fun v h' => v = .tuple #[.slice none 0 0, .int .i64 (askE sum ws)] ∧ h' = h := by
  (refine enterK c_split_Shares (Nat.le_of_ble_eq_true rfl) fun K hK => ?_; (try simp (maxSteps := 1000000) (disch := first | omega | assumption | exact Nat.le_of_ble_eq_true rfl) only [go_sem, ↓mwp_block, simprocAttr, ir_split_Shares]))
  refine call_intro (asked_ok sum ha hl) ?_
  rintro _ _ ⟨rfl, rfl⟩
  (try simp (maxSteps := 1000000) (disch := first | omega | assumption | exact Nat.le_of_ble_eq_true rfl) only [go_sem, ↓mwp_block, simprocAttr, hask])
  exact hK _ _ ⟨rfl, rfl⟩
/-- What Shares answers. -/
def ShP (h0 h' : Heap) (l : List HP) (sum : Int) (ws : List Int) (v : Value) : Prop :=
  (askE sum ws ≠ 0 ∧ v = .tuple #[.slice none 0 0, .int .i64 (askE sum ws)] ∧ St h0 h' l) ∨
  (askE sum ws = 0 ∧ ∃ s out, v = .tuple #[s, .int .i64 0] ∧ IsShares sum.toNat (effW ws).sum (effW ws) out ∧ out.length = ws.length ∧ St h0 h' (ownA zEnc 1 2 s out :: l))
theorem Each_bad (sum n : Int) (hn : n < 1 ∨ 200 < n) (h : Heap) :
    CallsH Try.prog 74 [.int .i64 sum, .int .i64 n] h fun v h' => v = .tuple #[.slice none 0 0, .int .i64 1] ∧ h' = h := by
  by_cases h1 : n < 1
  · (refine enterK c_split_Each (Nat.le_of_ble_eq_true rfl) fun K hK => ?_; (try simp (maxSteps := 1000000) (disch := first | omega | assumption | exact Nat.le_of_ble_eq_true rfl) only [go_sem, ↓mwp_block, simprocAttr, ir_split_Each]))
    (try simp (maxSteps := 1000000) (disch := first | omega | assumption | exact Nat.le_of_ble_eq_true rfl) only [go_sem, ↓mwp_block, simprocAttr, h1])
    exact hK _ _ ⟨rfl, rfl⟩
  · have h2 : 200 < n := by omega
    (refine enterK c_split_Each (Nat.le_of_ble_eq_true rfl) fun K hK => ?_; (try simp (maxSteps := 1000000) (disch := first | omega | assumption | exact Nat.le_of_ble_eq_true rfl) only [go_sem, ↓mwp_block, simprocAttr, ir_split_Each]))
    (try simp (maxSteps := 1000000) (disch := first | omega | assumption | exact Nat.le_of_ble_eq_true rfl) only [go_sem, ↓mwp_block, simprocAttr, h1, h2])
    exact hK _ _ ⟨rfl, rfl⟩
theorem Each_ok (sum : Int) (n : Nat) (hn1 : 0 < n) (hn2 : n ≤ 200) (S : St h0 h l) :
    CallsH Try.prog 74 [.int .i64 sum, .int .i64 n] h fun v h' => ShP h0 h' l sum (List.replicate n 1) v := by
  have c1 : ¬ (n : Int) < 1 := by omega
  have c2 : ¬ (200 : Int) < n := by omega
  (refine enterK c_split_Each (Nat.le_of_ble_eq_true rfl) fun K hK => ?_; (try simp (maxSteps := 1000000) (disch := first | omega | assumption | exact Nat.le_of_ble_eq_true rfl) only [go_sem, ↓mwp_block, simprocAttr, ir_split_Each]))
  (try simp (maxSteps := 1000000) (disch := first | omega | assumption | exact Nat.le_of_ble_eq_true rfl) only [go_sem, ↓mwp_block, simprocAttr, c1, c2])
  refine st_make (0 : Int) zEnc_len rfl S (by omega) (by omega) ?_
  clear S
  intro v h S
  obtain ⟨A, c, rfl⟩ := S.sl
  rw [List.length_replicate] at S ⊢
  obtain ⟨b, rfl⟩ := S.ownAt (by rw [List.length_replicate]; omega)
  (try simp (maxSteps := 1000000) (disch := first | omega | assumption | exact Nat.le_of_ble_eq_true rfl) only [go_sem, ↓mwp_block, simprocAttr])
  refine loop_intro (fun ρ' h' => ρ' 0 = .int .i64 sum ∧ ρ' 6 = .slice (some ⟨b, 0, none⟩) n c ∧ ρ' 17 = .int .i64 n ∧ ∃ i : Nat, ρ' 18 = .int .i64 i ∧ i ≤ n ∧
    St h0 h' (ownA zEnc 1 2 (.slice (some ⟨b, 0, none⟩) n c) ((List.replicate n 1).take i ++ List.replicate (n - i) 0) :: l)) (fun ρ' _ => n - (iv (ρ' 18)).toNat) ?_ ?_
  · (try simp (maxSteps := 1000000) (disch := first | omega | assumption | exact Nat.le_of_ble_eq_true rfl) only [go_sem, ↓mwp_block, simprocAttr])
    exact ⟨0, rfl, by omega, S⟩
  clear S
  rintro ρ h J hJ ⟨e0, e6, e17, i, e18, hi, S⟩
  (try simp (maxSteps := 1000000) (disch := first | omega | assumption | exact Nat.le_of_ble_eq_true rfl) only [go_sem, ↓mwp_block, simprocAttr, e17, e18])
  refine cond_dec (fun hlt => ?_) (fun hlt => ?_)
  · have hil : i < n := by omega
    (try simp (maxSteps := 1000000) (disch := first | omega | assumption | exact Nat.le_of_ble_eq_true rfl) only [go_sem, ↓mwp_block, simprocAttr, e18, e6])
    refine st_setOwn (i := i) (x := 1) zEnc_len S (by rw [List.length_append, List.length_take, List.length_replicate, List.length_replicate]; omega) rfl rfl rfl rfl ?_
    clear S
    intro h S
    (try simp (maxSteps := 1000000) (disch := first | omega | assumption | exact Nat.le_of_ble_eq_true rfl) only [go_sem, ↓mwp_block, simprocAttr, e18])
    refine hJ _ _ ?_ ?_
    · (try simp (maxSteps := 1000000) (disch := first | omega | assumption | exact Nat.le_of_ble_eq_true rfl) only [go_sem, ↓mwp_block, simprocAttr, e0, e6, e17])
      refine ⟨i + 1, rfl, by omega, ?_⟩
      have := set_fill (List.replicate n (1 : Int)) 0 (List.length_replicate ..) hil
      rw [List.getElem_replicate] at this
      rw [this] at S
      exact S
    · (try simp (maxSteps := 1000000) (disch := first | omega | assumption | exact Nat.le_of_ble_eq_true rfl) only [go_sem, ↓mwp_block, simprocAttr, e18])
      omega
  · obtain rfl : i = n := by omega
    rw [Nat.sub_self, List.replicate_zero, List.append_nil, List.take_of_length_le (by rw [List.length_replicate]; exact Nat.le_refl _)] at S
    have harr := S.arr zEnc_len
    have hln : (List.replicate i (1 : Int)).length = i := List.length_replicate ..
    by_cases hask : askE sum (List.replicate i 1) = 0
    · obtain ⟨_, _, _, hs0, hs1, _, _⟩ := ask0 hask
      obtain ⟨k, rfl⟩ : ∃ k : Nat, sum = k := ⟨sum.toNat, by omega⟩
      have hmap : (List.replicate i 1).map Int.ofNat = List.replicate i (1 : Int) := List.map_replicate
      have hsh := Shares_ok (h0 := h0) (h := h) (A := some ⟨b, 0, none⟩) (c := c) (l := ownA zEnc 1 2 (.slice (some ⟨b, 0, none⟩) i c) (List.replicate i 1) :: l) k (List.replicate i 1) (fun h' S => by rw [hmap]; exact S.arr zEnc_len) (by rw [hmap]; exact hask) (by rw [sum_ones]; exact hn1) S
      rw [List.length_replicate] at hsh
      (try simp (maxSteps := 1000000) (disch := first | omega | assumption | exact Nat.le_of_ble_eq_true rfl) only [go_sem, ↓mwp_block, simprocAttr, e0, e6])
      refine call_intro hsh ?_
      clear S hsh harr
      rintro _ h ⟨s, out, rfl, hI, ho, S⟩
      (try simp (maxSteps := 1000000) (disch := first | omega | assumption | exact Nat.le_of_ble_eq_true rfl) only [go_sem, ↓mwp_block, simprocAttr])
      refine hK _ _ (.inr ⟨hask, s, out, rfl, ?_, by rw [hln]; exact ho, S.d1⟩)
      have he : effW (List.replicate i 1) = List.replicate i 1 := by
        have hsm := sumI (List.replicate i 1)
        rw [hmap, sum_ones] at hsm
        unfold effW
        rw [if_neg (by omega), List.map_replicate]
        rfl
      rw [he, Int.toNat_natCast]
      exact hI
    · have hsh := SharesE_ok (c := c) sum harr (by omega) hask
      rw [List.length_replicate] at hsh
      (try simp (maxSteps := 1000000) (disch := first | omega | assumption | exact Nat.le_of_ble_eq_true rfl) only [go_sem, ↓mwp_block, simprocAttr, e0, e6])
      refine call_intro hsh ?_
      rintro _ h ⟨rfl, rfl⟩
      (try simp (maxSteps := 1000000) (disch := first | omega | assumption | exact Nat.le_of_ble_eq_true rfl) only [go_sem, ↓mwp_block, simprocAttr])
      exact hK _ _ (.inl ⟨hask, rfl, S.tl⟩)
theorem SharesA_ok {A : Option Addr} {c : Nat} (sum : Int) (ws : List Int) (ha : ∀ h', St h0 h' l → Arr zEnc 1 h' A ws) (hl : ws.length < 1000000000) (S : St h0 h l) :
    CallsH Try.prog 54 [.int .i64 sum, .slice A ws.length c] h fun v h' => ShP h0 h' l sum ws v := by
  by_cases hask : askE sum ws = 0
  case neg =>
    refine (SharesE_ok sum (ha h S) hl hask).mono ?_
    rintro v h' ⟨rfl, rfl⟩
    exact .inl ⟨hask, rfl, S⟩
  obtain ⟨hw0, hw1, hf, hs0, hs1, hs2, hs3⟩ := ask0 hask
  by_cases hall : ws.sum = 0
  · have hA0 : askA sum ws = 0 := by rw [askA, if_pos hask, hall]
    (refine enterK c_split_Shares (Nat.le_of_ble_eq_true rfl) fun K hK => ?_; (try simp (maxSteps := 1000000) (disch := first | omega | assumption | exact Nat.le_of_ble_eq_true rfl) only [go_sem, ↓mwp_block, simprocAttr, ir_split_Shares]))
    refine call_intro (asked_ok sum (ha h S) hl) ?_
    rintro _ _ ⟨rfl, rfl⟩
    rw [hask, hA0]
    (try simp (maxSteps := 1000000) (disch := first | omega | assumption | exact Nat.le_of_ble_eq_true rfl) only [go_sem, ↓mwp_block, simprocAttr])
    refine call_intro (Each_ok sum ws.length hw0 hw1 S) ?_
    clear S
    have ho : askE sum (List.replicate ws.length 1) = 0 := by
      rw [ask_ones hw0 hw1, if_neg (by omega)]
    rintro _ h (⟨hn, _⟩ | ⟨_, s, out, rfl, hI, hlo, S⟩)
    · exact (hn ho).elim
    (try simp (maxSteps := 1000000) (disch := first | omega | assumption | exact Nat.le_of_ble_eq_true rfl) only [go_sem, ↓mwp_block, simprocAttr])
    refine hK _ _ (.inr ⟨hask, s, out, rfl, ?_, by rw [hlo, List.length_replicate], S⟩)
    have he : effW (List.replicate ws.length 1) = effW ws := by
      have hmap : (List.replicate ws.length 1).map Int.ofNat = List.replicate ws.length (1 : Int) := List.map_replicate
      have hsm := sumI (List.replicate ws.length 1)
      rw [hmap, sum_ones] at hsm
      unfold effW
      rw [if_neg (by omega), if_pos hall, List.map_replicate]
      rfl
    rw [← he]
    exact hI
  · have hbk := toNat_back hf
    obtain ⟨k, rfl⟩ : ∃ k : Nat, sum = k := ⟨sum.toNat, by omega⟩
    have hsum := sumI (ws.map Int.toNat)
    rw [hbk] at hsum
    have hsh := Shares_ok (h0 := h0) (h := h) (A := A) (c := c) (l := l) k (ws.map Int.toNat) (by rw [hbk]; exact ha) (by rw [hbk]; exact hask) (by omega) S
    rw [List.length_map] at hsh
    refine hsh.mono ?_
    rintro v h' ⟨s, out, rfl, hI, hlo, S⟩
    refine .inr ⟨hask, s, out, rfl, ?_, hlo, S⟩
    have he : effW ws = ws.map Int.toNat := by unfold effW; rw [if_neg hall]
    rw [he]
    exact hI
end
end Go.Proofs.Ytblalmgahfbalaa.MX

/- Split: the reference's Asked and Part, and Same. -/
namespace Go.Proofs.Ytblalmgahfbalaa.MX
open Go Go.Proofs
set_option linter.unusedSimpArgs false
set_option linter.unusedVariables false
set_option maxHeartbeats 8000000
section
variable {h : Heap}
end
end Go.Proofs.Ytblalmgahfbalaa.MX

/- The document's bytes of a table; the law TableWrites. -/
namespace Go.Proofs.Ytblalmgahfbalaa.MX
open Go Go.Proofs
set_option linter.unusedSimpArgs false
set_option linter.unusedVariables false

/-- A test behind which both ways go on alike: what follows is shown once. -/
theorem cond_join {P : Program} {b : Bool} {x y : MCode} {T : Env → Heap → Prop} {Q : MExit → Env → Heap → Prop} {ρ : Env} {h : Heap} {s : Tag (mwp P x (qseq T Q) ρ h)} {t : Tag (mwp P y (qseq T Q) ρ h)} (I : Env → Heap → Prop) (hT : ∀ ρ h, I ρ h → T ρ h)
    (hX : b = true → ∀ J : Env → Heap → Prop, (∀ ρ h, I ρ h → J ρ h) → mwp P x (qseq J Q) ρ h) (hY : b = false → ∀ J : Env → Heap → Prop, (∀ ρ h, I ρ h → J ρ h) → mwp P y (qseq J Q) ρ h) :
    condT (.bool b) (mwp P x (qseq T Q) ρ h) (mwp P y (qseq T Q) ρ h) s t := by
  cases b
  · simp only [condT, condW, Bool.false_eq_true, if_false]; exact hY rfl T hT
  · simp only [condT, condW, if_true]; exact hX rfl T hT

end Go.Proofs.Ytblalmgahfbalaa.MX

/- Split: the reference's Shares. -/
namespace Go.Proofs.Ytblalmgahfbalaa.MX
open Go Go.Proofs
set_option linter.unusedSimpArgs false
set_option linter.unusedVariables false
set_option maxHeartbeats 8000000
def lEnc (b : Bool) : List Value := [.bool b]
theorem lEnc_len (b : Bool) : (lEnc b).length = 1 := rfl
def givenL (n : Nat) (T : List Int) : List Bool := (List.range n).map fun i : Nat => decide ((i : Int) ∈ T)
theorem givenL_len (n : Nat) (T : List Int) : (givenL n T).length = n := by simp [givenL]
theorem givenL_nil (n : Nat) : givenL n [] = List.replicate n false := by
  apply List.ext_getElem
  · simp [givenL]
  · intro i h1 h2; simp [givenL]
theorem givenL_set {n k : Nat} (T : List Int) (hk : k < n) : (givenL n T).set k true = givenL n (T ++ [(k : Int)]) := by
  apply List.ext_getElem
  · simp [givenL]
  · intro i h1 h2
    simp only [givenL, List.getElem_set, List.getElem_map, List.getElem_range, List.mem_append, List.mem_singleton]
    by_cases e : k = i
    · subst e; simp
    · rw [if_neg e]
      have : ¬ (i : Int) = k := by omega
      simp [this]
/-- The best of the first i that are not given yet. -/
def BestOf (Kf : Int → Nat) (T : List Int) (i : Nat) (B : Int) : Prop :=
  (B = -1 ∧ ∀ k, k < i → (k : Int) ∈ T) ∨ ∃ b : Nat, B = b ∧ b < i ∧ (b : Int) ∉ T ∧ ∀ k, k < i → (k : Int) ∉ T → k = b ∨ Rk Kf b k
theorem BestOf.zero (Kf : Int → Nat) (T : List Int) : BestOf Kf T 0 (-1) := .inl ⟨rfl, fun k hk => by omega⟩
theorem BestOf.skip {Kf : Int → Nat} {T : List Int} {i : Nat} {B : Int} (h : BestOf Kf T i B) (hi : (i : Int) ∈ T) : BestOf Kf T (i + 1) B := by
  rcases h with ⟨rfl, h⟩ | ⟨b, rfl, hb, hn, h⟩
  · refine .inl ⟨rfl, fun k hk => ?_⟩
    by_cases e : k = i
    · subst e; exact hi
    · exact h k (by omega)
  · refine .inr ⟨b, rfl, by omega, hn, fun k hk hkn => ?_⟩
    by_cases e : k = i
    · subst e; exact (hkn hi).elim
    · exact h k (by omega) hkn
theorem BestOf.first {Kf : Int → Nat} {T : List Int} {i : Nat} (h : BestOf Kf T i (-1)) (hi : (i : Int) ∉ T) : BestOf Kf T (i + 1) i := by
  rcases h with ⟨_, h⟩ | ⟨b, hb, _⟩
  · refine .inr ⟨i, rfl, by omega, hi, fun k hk hkn => ?_⟩
    by_cases e : k = i
    · exact .inl e
    · exact (hkn (h k (by omega))).elim
  · omega
theorem BestOf.more {Kf : Int → Nat} {T : List Int} {i b : Nat} (h : BestOf Kf T i (b : Int)) (hi : (i : Int) ∉ T) (hk : Kf b < Kf i) : BestOf Kf T (i + 1) i := by
  rcases h with ⟨hb, _⟩ | ⟨b', hb, hb1, hb2, h⟩
  · omega
  · obtain rfl : b = b' := by omega
    refine .inr ⟨i, rfl, by omega, hi, fun k hk' hkn => ?_⟩
    by_cases e : k = i
    · exact .inl e
    · refine .inr (.inl ?_)
      rcases h k (by omega) hkn with rfl | h
      · exact hk
      · unfold Rk at h; omega
theorem BestOf.less {Kf : Int → Nat} {T : List Int} {i b : Nat} (h : BestOf Kf T i (b : Int)) (hi : (i : Int) ∉ T) (hk : ¬ Kf b < Kf i) : BestOf Kf T (i + 1) b := by
  rcases h with ⟨hb, _⟩ | ⟨b', hb, hb1, hb2, h⟩
  · omega
  · obtain rfl : b = b' := by omega
    refine .inr ⟨b, rfl, by omega, hb2, fun k hk' hkn => ?_⟩
    by_cases e : k = i
    · refine .inr ?_
      subst e
      unfold Rk
      omega
    · exact h k (by omega) hkn
section
variable {h0 h : Heap} {l : List HP}
theorem RShares_ok {A : Option Addr} {c : Nat} (sum : Nat) (ws : List Int) {out0 : List Int} (ha : ∀ h', St h0 h' l → Arr zEnc 1 h' A ws) (hask : askE sum ws = 0) (hI : IsShares sum (effW ws).sum (effW ws) out0) (S : St h0 h l) :
    CallsH Try.prog 29 [.int .i64 sum, .slice A ws.length c] h fun v h' => St h0 h' (ownA zEnc 1 2 v out0 :: l) := by
  obtain ⟨hw0, hw1, hf, hs0, hs1, hs2, hs3⟩ := ask0 hask
  obtain ⟨hep, hem⟩ := effW_pos hask
  have hel := effW_len ws
  obtain ⟨Z, hp, hs, hout⟩ := hI
  (refine enterK c_recoupref05_Shares (Nat.le_of_ble_eq_true rfl) fun K hK => ?_; (try simp (maxSteps := 1000000) (disch := first | omega | assumption | exact Nat.le_of_ble_eq_true rfl) only [go_sem, ↓mwp_block, simprocAttr, ir_recoupref05_Shares]))
  refine loop_intro (fun ρ h' => h' = h ∧ ρ 0 = .int .i64 sum ∧ ρ 1 = .slice A ws.length c ∧ ρ 19 = .int .i64 ws.length ∧ ∃ i : Nat, ρ 20 = .int .i64 i ∧ i ≤ ws.length ∧ ρ 5 = .int .i64 (ws.take i).sum) (fun ρ _ => ws.length - (iv (ρ 20)).toNat) ?_ ?_
  · (try simp (maxSteps := 1000000) (disch := first | omega | assumption | exact Nat.le_of_ble_eq_true rfl) only [go_sem, ↓mwp_block, simprocAttr])
    exact ⟨0, rfl, by omega, rfl⟩
  rintro ρ h' J hJ ⟨rfl, e0, e1, e19, i, e20, hi, e5⟩
  (try simp (maxSteps := 1000000) (disch := first | omega | assumption | exact Nat.le_of_ble_eq_true rfl) only [go_sem, ↓mwp_block, simprocAttr, e19, e20])
  refine cond_dec (fun hlt => ?_) (fun hlt => ?_)
  · have hil : i < ws.length := by omega
    obtain ⟨bk, off, rfl, hr⟩ := ha h' S i hil
    have hr := rd1_part hr 0 (by omega)
    simp only [zEnc, List.getElem?_cons_zero, Nat.add_zero] at hr
    have hb := sum_bound (ws := ws.take i) fun w hw => hf w (List.mem_of_mem_take hw)
    have hz := hf _ (List.getElem_mem hil)
    have hbl : (ws.take i).length ≤ 200 := by rw [List.length_take]; omega
    unfold fitW at hz
    have w1 : IntKind.i64.wrap ((ws.take i).sum + ws[i]) = (ws.take i).sum + ws[i] := wrap_i64 (by omega) (by omega)
    (try simp (maxSteps := 1000000) (disch := first | omega | assumption | exact Nat.le_of_ble_eq_true rfl) only [go_sem, ↓mwp_block, simprocAttr, e1, e20, hr, e5, w1])
    refine hJ _ _ ?_ ?_
    · (try simp (maxSteps := 1000000) (disch := first | omega | assumption | exact Nat.le_of_ble_eq_true rfl) only [go_sem, ↓mwp_block, simprocAttr, e0, e1, e19])
      refine ⟨i + 1, rfl, by omega, ?_⟩
      rw [List.take_succ_eq_append_getElem hil, List.sum_append]
      simp
    · (try simp (maxSteps := 1000000) (disch := first | omega | assumption | exact Nat.le_of_ble_eq_true rfl) only [go_sem, ↓mwp_block, simprocAttr, e20])
      omega
  obtain rfl : i = ws.length := by omega
  rw [List.take_length] at e5
  clear hJ
  (try simp (maxSteps := 1000000) (disch := first | omega | assumption | exact Nat.le_of_ble_eq_true rfl) only [go_sem, ↓mwp_block, simprocAttr])
  (refine st_alloc S ?_; clear S; intro g h S; (try simp only [splice_cons, splice_nil, List.set_cons_zero, List.set_cons_succ, Nat.zero_add, Nat.reduceAdd, List.cons_append, List.nil_append] at S); ((try clear F); have F := S.all; (try simp only [all_cons, all_nil, says_cell, and_true] at F)))
  have S := S.cellOwn (enc := zEnc) (sz := 1) (ys := []) zEnc_len rfl (by decide)
  clear F
  (try simp (maxSteps := 1000000) (disch := first | omega | assumption | exact Nat.le_of_ble_eq_true rfl) only [go_sem, ↓mwp_block, simprocAttr, e1])
  refine st_append (bytes := 8) (ys := ws) zEnc_len (by omega) zEnc_plain rfl S rfl (src_arr zEnc_len (ha _ S.tl) rfl) (by simp only [List.length_nil]; omega) (by simp only [List.length_nil]; omega) ?_
  clear S
  intro v h S
  rw [List.nil_append] at S
  obtain ⟨A7, c7, rfl⟩ := S.sl
  obtain ⟨b7, rfl⟩ := S.ownAt (by omega)
  (try simp (maxSteps := 1000000) (disch := first | omega | assumption | exact Nat.le_of_ble_eq_true rfl) only [go_sem, ↓mwp_block, simprocAttr, e5])
  refine cond_cut (fun ρ' h' => ρ' 0 = .int .i64 sum ∧ ρ' 5 = .int .i64 ((effW ws).sum : Nat) ∧ ρ' 7 = .slice (some ⟨b7, 0, none⟩) ws.length c7 ∧ St h0 h' (ownA zEnc 1 2 (.slice (some ⟨b7, 0, none⟩) ws.length c7) ((effW ws).map Int.ofNat) :: l)) ?_ ?_ ?_
  · intro hb1 J hJ
    have hall : ws.sum = 0 := of_dcd_true hb1
    have he : effW ws = List.replicate ws.length 1 := by unfold effW; rw [if_pos hall]
    (try simp (maxSteps := 1000000) (disch := first | omega | assumption | exact Nat.le_of_ble_eq_true rfl) only [go_sem, ↓mwp_block, simprocAttr])
    refine loop_intro (fun ρ' h' => ρ' 0 = .int .i64 sum ∧ ρ' 7 = .slice (some ⟨b7, 0, none⟩) ws.length c7 ∧ ρ' 36 = .int .i64 ws.length ∧ ∃ i : Nat, ρ' 37 = .int .i64 i ∧ i ≤ ws.length ∧ ∃ X : List Int, X.length = ws.length - i ∧
      St h0 h' (ownA zEnc 1 2 (.slice (some ⟨b7, 0, none⟩) ws.length c7) (List.replicate i 1 ++ X) :: l)) (fun ρ' _ => ws.length - (iv (ρ' 37)).toNat) ?_ ?_
    · (try simp (maxSteps := 1000000) (disch := first | omega | assumption | exact Nat.le_of_ble_eq_true rfl) only [go_sem, ↓mwp_block, simprocAttr, e0])
      exact ⟨0, rfl, by omega, ws, rfl, S⟩
    clear S
    rintro ρ h J' hJ' ⟨e0, e7, e36, i, e37, hi, X, hX, S⟩
    (try simp (maxSteps := 1000000) (disch := first | omega | assumption | exact Nat.le_of_ble_eq_true rfl) only [go_sem, ↓mwp_block, simprocAttr, e36, e37])
    refine cond_dec (fun hlt => ?_) (fun hlt => ?_)
    · have hil : i < ws.length := by omega
      (try simp (maxSteps := 1000000) (disch := first | omega | assumption | exact Nat.le_of_ble_eq_true rfl) only [go_sem, ↓mwp_block, simprocAttr, e37, e7])
      refine st_setOwn (i := i) (x := 1) zEnc_len S (by rw [List.length_append, List.length_replicate]; omega) rfl rfl rfl rfl ?_
      clear S
      intro h S
      (try simp (maxSteps := 1000000) (disch := first | omega | assumption | exact Nat.le_of_ble_eq_true rfl) only [go_sem, ↓mwp_block, simprocAttr, e37])
      refine hJ' _ _ ?_ ?_
      · (try simp (maxSteps := 1000000) (disch := first | omega | assumption | exact Nat.le_of_ble_eq_true rfl) only [go_sem, ↓mwp_block, simprocAttr, e0, e7, e36])
        obtain ⟨x, X', rfl⟩ : ∃ x X', X = x :: X' := by
          cases X with
          | nil => simp at hX; omega
          | cons x X' => exact ⟨x, X', rfl⟩
        refine ⟨i + 1, rfl, by omega, X', by rw [List.length_cons] at hX; omega, ?_⟩
        have : (List.replicate i (1 : Int) ++ x :: X').set i 1 = List.replicate (i + 1) 1 ++ X' := by
          rw [List.set_append_right _ _ (by rw [List.length_replicate]; exact Nat.le_refl _), List.length_replicate, Nat.sub_self, List.set_cons_zero, List.replicate_succ', List.append_assoc]
          rfl
        rw [this] at S
        exact S
      · (try simp (maxSteps := 1000000) (disch := first | omega | assumption | exact Nat.le_of_ble_eq_true rfl) only [go_sem, ↓mwp_block, simprocAttr, e37])
        omega
    · obtain rfl : i = ws.length := by omega
      rw [Nat.sub_self] at hX
      rw [List.eq_nil_of_length_eq_zero hX, List.append_nil] at S
      (try simp (maxSteps := 1000000) (disch := first | omega | assumption | exact Nat.le_of_ble_eq_true rfl) only [go_sem, ↓mwp_block, simprocAttr, e7])
      refine hJ _ _ ?_
      (try simp (maxSteps := 1000000) (disch := first | omega | assumption | exact Nat.le_of_ble_eq_true rfl) only [go_sem, ↓mwp_block, simprocAttr, e0])
      rw [he, sum_ones, List.map_replicate]
      exact ⟨rfl, e7, S⟩
  · intro hb1 J hJ
    have hall : ¬ ws.sum = 0 := of_dcd_false hb1
    have he : effW ws = ws.map Int.toNat := by unfold effW; rw [if_neg hall]
    (try simp (maxSteps := 1000000) (disch := first | omega | assumption | exact Nat.le_of_ble_eq_true rfl) only [go_sem, ↓mwp_block, simprocAttr])
    refine hJ _ _ ?_
    (try simp (maxSteps := 1000000) (disch := first | omega | assumption | exact Nat.le_of_ble_eq_true rfl) only [go_sem, ↓mwp_block, simprocAttr, e0])
    have hsum := sumI (ws.map Int.toNat)
    rw [toNat_back hf] at hsum
    rw [he, toNat_back hf, ← hsum]
    exact ⟨e5, S⟩
  clear S
  rintro ρ h ⟨e0, e5, e7, S⟩
  have hask1 : (effW ws).length ≤ 200 := by omega
  have hn0 : 0 < (effW ws).length := by omega
  have hsb : sum ≤ 1125899906842624 := by omega
  rw [← hel] at e7 S
  clear ha hask hf hw0 hw1 hs1 hs2 hs3 hel
  generalize effW ws = W at *
  obtain ⟨hl1, hl2⟩ := left_law hep (rfl : W.sum = W.sum) (sum := sum)
  have hQl : ((quoW sum W.sum W).map Int.ofNat).length = W.length := by rw [List.length_map, quoW_len]
  have hRl : (restW sum W.sum W).length = W.length := restW_len ..
  have S : St h0 h (ownA uEnc 1 106 (.slice none 0 0) [] :: ownA zEnc 1 2 (.slice none 0 0) [] :: _) := S.nilS.nilS
  (try simp (maxSteps := 1000000) (disch := first | omega | assumption | exact Nat.le_of_ble_eq_true rfl) only [go_sem, ↓mwp_block, simprocAttr, e0, e7])
  refine loop_intro (fun ρ' h' => ρ' 0 = .int .i64 sum ∧ ρ' 5 = .int .i64 (W.sum : Nat) ∧ ρ' 7 = .slice (some ⟨b7, 0, none⟩) W.length c7 ∧ ρ' 48 = .int .i64 W.length ∧ ∃ (i : Nat) (Ao Ar : Option Addr) (co cr : Nat), ρ' 49 = .int .i64 i ∧ i ≤ W.length ∧ ρ' 9 = .slice Ao i co ∧ ρ' 10 = .slice Ar i cr ∧ ρ' 11 = .int .i64 ((sum : Int) - ((quoW sum W.sum W).take i).sum) ∧
    St h0 h' (ownA uEnc 1 106 (.slice Ar i cr) ((restW sum W.sum W).take i) :: ownA zEnc 1 2 (.slice Ao i co) (((quoW sum W.sum W).map Int.ofNat).take i) :: ownA zEnc 1 2 (.slice (some ⟨b7, 0, none⟩) W.length c7) (W.map Int.ofNat) :: l)) (fun ρ' _ => W.length - (iv (ρ' 49)).toNat) ?_ ?_
  · (try simp (maxSteps := 1000000) (disch := first | omega | assumption | exact Nat.le_of_ble_eq_true rfl) only [go_sem, ↓mwp_block, simprocAttr, e0, e5, e7])
    exact ⟨0, none, none, 0, 0, rfl, by omega, rfl, rfl, by simp, by simpa using S⟩
  clear S e0 e5 e7
  rintro ρ h J hJ ⟨e0, e5, e7, e48, i, Ao, Ar, co, cr, e49, hi, e9, e10, e11, S⟩
  (try simp (maxSteps := 1000000) (disch := first | omega | assumption | exact Nat.le_of_ble_eq_true rfl) only [go_sem, ↓mwp_block, simprocAttr, e48, e49])
  refine cond_dec (fun hlt => ?_) (fun hlt => ?_)
  · have hil : i < W.length := by omega
    have hr := own_rd S.p2 (i := i) (x := (W[i] : Nat)) (by rw [List.getElem?_map, List.getElem?_eq_getElem hil]; rfl)
    have hwm : W[i] ≤ W.sum := le_sumN (List.getElem_mem hil)
    have hqb : sum * W[i] / W.sum ≤ sum := by
      apply Nat.le_of_mul_le_mul_right (c := W.sum) _ hep
      exact Nat.le_trans (Nat.div_mul_le_self _ _) (Nat.mul_le_mul_left _ hwm)
    have hqn : (quoW sum W.sum W)[i]'(by rw [quoW_len]; exact hil) = sum * W[i] / W.sum := by simp only [quoW, List.getElem_map]
    have hqi : ((quoW sum W.sum W).map Int.ofNat)[i]'(by rw [hQl]; exact hil) = ((sum * W[i] / W.sum : Nat) : Int) := by rw [List.getElem_map, hqn]; rfl
    have hri : (restW sum W.sum W)[i]'(by rw [hRl]; exact hil) = sum * W[i] % W.sum := by simp only [restW, List.getElem_map]
    have hts : ((quoW sum W.sum W).take (i + 1)).sum = ((quoW sum W.sum W).take i).sum + sum * W[i] / W.sum := by rw [List.take_succ_eq_append_getElem (by rw [quoW_len]; exact hil), List.sum_append, hqn]; simp
    have htl : ((quoW sum W.sum W).take (i + 1)).sum ≤ (quoW sum W.sum W).sum := by
      conv => rhs; rw [← List.take_append_drop (i + 1) (quoW sum W.sum W), List.sum_append]
      exact Nat.le_add_right _ _
    have wl : IntKind.i64.wrap ((sum : Int) - ((quoW sum W.sum W).take i).sum - ((sum * W[i] / W.sum : Nat) : Int)) = (sum : Int) - ((quoW sum W.sum W).take (i + 1)).sum := by
      rw [hts, wrap_i64 (by omega) (by omega)]
      omega
    have hdv := divided_ok sum W[i] W.sum (by omega) hwm hep hem h
    generalize hq : sum * W[i] / W.sum = q at *
    generalize hrr : sum * W[i] % W.sum = r at *
    generalize hw : W[i] = w at *
    (try simp (maxSteps := 1000000) (disch := first | omega | assumption | exact Nat.le_of_ble_eq_true rfl) only [go_sem, ↓mwp_block, simprocAttr, e0, e7, e49, hr, e5])
    refine call_intro hdv ?_
    rintro _ _ ⟨rfl, rfl⟩
    (try simp (maxSteps := 1000000) (disch := first | omega | assumption | exact Nat.le_of_ble_eq_true rfl) only [go_sem, ↓mwp_block, simprocAttr, e9])
    (refine st_alloc S ?_; clear S; intro g h S; (try simp only [splice_cons, splice_nil, List.set_cons_zero, List.set_cons_succ, Nat.zero_add, Nat.reduceAdd, List.cons_append, List.nil_append] at S); ((try clear F); have F := S.all; (try simp only [all_cons, all_nil, says_cell, and_true] at F)))
    (try simp (maxSteps := 1000000) (disch := first | omega | assumption | exact Nat.le_of_ble_eq_true rfl) only [go_sem, ↓mwp_block, simprocAttr])
    refine st_append1 (bytes := 8) (x := (q : Int)) zEnc_len (by omega) zEnc_plain rfl rfl S.p2.p1 (by rw [List.length_take]; omega) (by rw [List.length_take]; omega) ?_
    clear S F hr hdv
    intro v h S
    rw [← hqi, ← List.take_succ_eq_append_getElem] at S
    obtain ⟨Ao, co, rfl⟩ := S.sl
    have hlo : (((quoW sum W.sum W).map Int.ofNat).take (i + 1)).length = i + 1 := by rw [List.length_take, hQl]; omega
    rw [hlo] at S ⊢
    (try simp (maxSteps := 1000000) (disch := first | omega | assumption | exact Nat.le_of_ble_eq_true rfl) only [go_sem, ↓mwp_block, simprocAttr, e10])
    (refine st_alloc S ?_; clear S; intro g2 h S; (try simp only [splice_cons, splice_nil, List.set_cons_zero, List.set_cons_succ, Nat.zero_add, Nat.reduceAdd, List.cons_append, List.nil_append] at S); ((try clear F); have F := S.all; (try simp only [all_cons, all_nil, says_cell, and_true] at F)))
    (try simp (maxSteps := 1000000) (disch := first | omega | assumption | exact Nat.le_of_ble_eq_true rfl) only [go_sem, ↓mwp_block, simprocAttr])
    refine st_append1 (bytes := 8) (x := r) uEnc_len (by omega) uEnc_plain rfl rfl S.p2.p1 (by rw [List.length_take]; omega) (by rw [List.length_take]; omega) ?_
    clear S F
    intro v h S
    rw [← hri, ← List.take_succ_eq_append_getElem] at S
    obtain ⟨Ar, cr, rfl⟩ := S.sl
    have hlr : ((restW sum W.sum W).take (i + 1)).length = i + 1 := by rw [List.length_take, hRl]; omega
    rw [hlr] at S ⊢
    (try simp (maxSteps := 1000000) (disch := first | omega | assumption | exact Nat.le_of_ble_eq_true rfl) only [go_sem, ↓mwp_block, simprocAttr, e11, wl, e49])
    refine hJ _ _ ?_ ?_
    · (try simp (maxSteps := 1000000) (disch := first | omega | assumption | exact Nat.le_of_ble_eq_true rfl) only [go_sem, ↓mwp_block, simprocAttr, e0, e5, e7, e48])
      exact ⟨i + 1, Ao, Ar, co, cr, rfl, by omega, rfl, rfl, rfl, S⟩
    · (try simp (maxSteps := 1000000) (disch := first | omega | assumption | exact Nat.le_of_ble_eq_true rfl) only [go_sem, ↓mwp_block, simprocAttr, e49])
      omega
  obtain rfl : i = W.length := by omega
  rw [List.take_of_length_le (by rw [hRl]; exact Nat.le_refl _), List.take_of_length_le (by rw [hQl]; exact Nat.le_refl _)] at S
  rw [List.take_of_length_le (by rw [quoW_len]; exact Nat.le_refl _)] at e11
  clear hJ
  (try simp (maxSteps := 1000000) (disch := first | omega | assumption | exact Nat.le_of_ble_eq_true rfl) only [go_sem, ↓mwp_block, simprocAttr, e7])
  refine st_make false lEnc_len rfl S (by omega) (by omega) ?_
  clear S
  intro v h S
  obtain ⟨Ag, cg, rfl⟩ := S.sl
  rw [List.length_replicate, ← givenL_nil] at S
  rw [List.length_replicate]
  have hZl : Z.length = W.length := by rw [hp.length_eq, natsI_len]
  have hZn : Z.Nodup := hp.nodup_iff.2 (natsI_nodup _)
  obtain ⟨lf, hlf⟩ : ∃ lf, sum - (quoW sum W.sum W).sum = lf := ⟨_, rfl⟩
  rw [show (sum : Int) - ((quoW sum W.sum W).sum : Nat) = (lf : Nat) by omega] at e11
  rw [hlf] at hout
  have hqd : ∀ x ∈ (quoW sum W.sum W).map Int.ofNat, 0 ≤ x ∧ x ≤ (sum : Int) := by
    intro x hx
    simp only [List.mem_map] at hx
    obtain ⟨k, hk, rfl⟩ := hx
    have := le_sumN hk
    show (0 : Int) ≤ (k : Int) ∧ (k : Int) ≤ (sum : Int)
    omega
  generalize hQ : (quoW sum W.sum W).map Int.ofNat = Q at *
  generalize hR : restW sum W.sum W = R at *
  generalize hnn : W.length = n at *
  obtain ⟨bg, rfl⟩ := S.ownAt (by rw [givenL_len]; omega)
  obtain ⟨br, rfl⟩ := S.p1.ownAt (by omega)
  obtain ⟨bo, rfl⟩ := S.p2.ownAt (by omega)
  have hlc : lf < 1000000 := by omega
  (try simp (maxSteps := 1000000) (disch := first | omega | assumption | exact Nat.le_of_ble_eq_true rfl) only [go_sem, ↓mwp_block, simprocAttr])
  refine loop_intro (fun ρ' h' => ρ' 7 = .slice (some ⟨b7, 0, none⟩) n c7 ∧ ρ' 9 = .slice (some ⟨bo, 0, none⟩) n co ∧ ρ' 10 = .slice (some ⟨br, 0, none⟩) n cr ∧ ρ' 15 = .slice (some ⟨bg, 0, none⟩) n cg ∧ ∃ j : Nat, j ≤ lf ∧ ρ' 11 = .int .i64 ((lf : Int) - j) ∧
    St h0 h' (ownA lEnc 1 4 (.slice (some ⟨bg, 0, none⟩) n cg) (givenL n (Z.take j)) :: ownA uEnc 1 106 (.slice (some ⟨br, 0, none⟩) n cr) R :: ownA zEnc 1 2 (.slice (some ⟨bo, 0, none⟩) n co) (bump Q (Z.take j)) :: l)) (fun ρ' _ => (iv (ρ' 11)).toNat) ?_ ?_
  · (try simp (maxSteps := 1000000) (disch := first | omega | assumption | exact Nat.le_of_ble_eq_true rfl) only [go_sem, ↓mwp_block, simprocAttr, e7, e9, e10, e11])
    exact ⟨0, by omega, by simp, S.p3.tl⟩
  clear S e0 e5 e7 e48 e49 e9 e10 e11
  rintro ρ h J hJ ⟨e7, e9, e10, e15, j, hj, e11, S⟩
  by_cases hlt : (0 : Int) < (lf : Int) - j
  case neg =>
    obtain rfl : j = lf := by omega
    (try simp (maxSteps := 1000000) (disch := first | omega | assumption | exact Nat.le_of_ble_eq_true rfl) only [go_sem, ↓mwp_block, simprocAttr, e11, hlt])
    (try simp (maxSteps := 1000000) (disch := first | omega | assumption | exact Nat.le_of_ble_eq_true rfl) only [go_sem, ↓mwp_block, simprocAttr, e9])
    refine hK _ _ ?_
    rw [hout]
    exact S.p2.d1.d1
  have hjl : j < lf := by omega
  have hjZ : j < Z.length := by omega
  (try simp (maxSteps := 1000000) (disch := first | omega | assumption | exact Nat.le_of_ble_eq_true rfl) only [go_sem, ↓mwp_block, simprocAttr, e11, hlt, e7])
  refine loop_intro (fun ρ' h' => h' = h ∧ ρ' 7 = ρ 7 ∧ ρ' 9 = ρ 9 ∧ ρ' 10 = ρ 10 ∧ ρ' 11 = ρ 11 ∧ ρ' 15 = ρ 15 ∧ ρ' 80 = .int .i64 n ∧ ∃ (i : Nat) (B : Int), ρ' 81 = .int .i64 i ∧ i ≤ n ∧ ρ' 16 = .int .i64 B ∧ BestOf (fun i => R.getD i.toNat 0) (Z.take j) i B) (fun ρ' _ => n - (iv (ρ' 81)).toNat) ?_ ?_
  · (try simp (maxSteps := 1000000) (disch := first | omega | assumption | exact Nat.le_of_ble_eq_true rfl) only [go_sem, ↓mwp_block, simprocAttr, e7])
    exact ⟨0, -1, rfl, by omega, rfl, BestOf.zero _ _⟩
  rintro ρ2 h2 J2 hJ2 ⟨he2, w7, w9, w10, w11, w15, w80, i, B, w81, hi, w16, hB⟩
  subst he2
  (try simp (maxSteps := 1000000) (disch := first | omega | assumption | exact Nat.le_of_ble_eq_true rfl) only [go_sem, ↓mwp_block, simprocAttr, w80, w81])
  refine cond_dec (fun hil => ?_) (fun hil => ?_)
  · have hin : i < n := by omega
    have hgg : rd1 h2 (.pointer (some ⟨bg, i * 1, none⟩)) = some (.bool (decide ((i : Int) ∈ Z.take j))) := by
      obtain ⟨b', o', hA, hr⟩ := S.arr lEnc_len i (by rw [givenL_len]; exact hin)
      cases hA
      have := rd1_part hr 0 (by omega)
      simpa [lEnc, givenL] using this
    have hri := own_rdU S.p1 (i := i) (by omega)
    by_cases c1 : (i : Int) ∈ Z.take j
    · rw [decide_eq_true c1] at hgg
      (try simp (maxSteps := 1000000) (disch := first | omega | assumption | exact Nat.le_of_ble_eq_true rfl) only [go_sem, ↓mwp_block, simprocAttr])
      refine draw_eq ?_
      (try simp (maxSteps := 1000000) (disch := first | omega | assumption | exact Nat.le_of_ble_eq_true rfl) only [go_sem, ↓mwp_block, simprocAttr, w15, e15, w81, hgg])
      refine hJ2 _ _ ?_ ?_
      · (try simp (maxSteps := 1000000) (disch := first | omega | assumption | exact Nat.le_of_ble_eq_true rfl) only [go_sem, ↓mwp_block, simprocAttr, w7, w9, w10, w11, w15, w80, w16])
        exact ⟨i + 1, B, rfl, by omega, rfl, hB.skip c1⟩
      · (try simp (maxSteps := 1000000) (disch := first | omega | assumption | exact Nat.le_of_ble_eq_true rfl) only [go_sem, ↓mwp_block, simprocAttr, w81])
        omega
    rw [decide_eq_false c1] at hgg
    have hBB := hB
    rcases hB with ⟨rfl, _⟩ | ⟨b, rfl, hbi, _, _⟩
    · (try simp (maxSteps := 1000000) (disch := first | omega | assumption | exact Nat.le_of_ble_eq_true rfl) only [go_sem, ↓mwp_block, simprocAttr])
      refine draw_eq ?_
      (try simp (maxSteps := 1000000) (disch := first | omega | assumption | exact Nat.le_of_ble_eq_true rfl) only [go_sem, ↓mwp_block, simprocAttr, w15, e15, w81, hgg, w16])
      refine hJ2 _ _ ?_ ?_
      · (try simp (maxSteps := 1000000) (disch := first | omega | assumption | exact Nat.le_of_ble_eq_true rfl) only [go_sem, ↓mwp_block, simprocAttr, w7, w9, w10, w11, w15, w80])
        exact ⟨i + 1, i, rfl, by omega, rfl, hBB.first c1⟩
      · (try simp (maxSteps := 1000000) (disch := first | omega | assumption | exact Nat.le_of_ble_eq_true rfl) only [go_sem, ↓mwp_block, simprocAttr, w81])
        omega
    have hrb := own_rdU S.p1 (i := b) (by omega)
    have c2 : ¬ (b : Int) < 0 := by omega
    have hgi : R.getD (i : Int).toNat 0 = R[i]'(by omega) := by rw [Int.toNat_natCast, List.getD_eq_getElem?_getD, List.getElem?_eq_getElem (by omega)]; rfl
    have hgb : R.getD (b : Int).toNat 0 = R[b]'(by omega) := by rw [Int.toNat_natCast, List.getD_eq_getElem?_getD, List.getElem?_eq_getElem (by omega)]; rfl
    by_cases c3 : ((R[b]'(by omega) : Nat) : Int) < (R[i]'(by omega) : Nat)
    · (try simp (maxSteps := 1000000) (disch := first | omega | assumption | exact Nat.le_of_ble_eq_true rfl) only [go_sem, ↓mwp_block, simprocAttr])
      refine draw_eq ?_
      (try simp (maxSteps := 1000000) (disch := first | omega | assumption | exact Nat.le_of_ble_eq_true rfl) only [go_sem, ↓mwp_block, simprocAttr, w15, e15, w81, hgg, w16, c2, w10, e10, hri, hrb, c3])
      refine hJ2 _ _ ?_ ?_
      · (try simp (maxSteps := 1000000) (disch := first | omega | assumption | exact Nat.le_of_ble_eq_true rfl) only [go_sem, ↓mwp_block, simprocAttr, w7, w9, w10, w11, w15, w80])
        exact ⟨i + 1, i, rfl, by omega, rfl, hBB.more c1 (by rw [hgi, hgb]; omega)⟩
      · (try simp (maxSteps := 1000000) (disch := first | omega | assumption | exact Nat.le_of_ble_eq_true rfl) only [go_sem, ↓mwp_block, simprocAttr, w81])
        omega
    · (try simp (maxSteps := 1000000) (disch := first | omega | assumption | exact Nat.le_of_ble_eq_true rfl) only [go_sem, ↓mwp_block, simprocAttr])
      refine draw_eq ?_
      (try simp (maxSteps := 1000000) (disch := first | omega | assumption | exact Nat.le_of_ble_eq_true rfl) only [go_sem, ↓mwp_block, simprocAttr, w15, e15, w81, hgg, w16, c2, w10, e10, hri, hrb, c3])
      refine hJ2 _ _ ?_ ?_
      · (try simp (maxSteps := 1000000) (disch := first | omega | assumption | exact Nat.le_of_ble_eq_true rfl) only [go_sem, ↓mwp_block, simprocAttr, w7, w9, w10, w11, w15, w80, w16])
        exact ⟨i + 1, b, rfl, by omega, rfl, hBB.less c1 (by rw [hgi, hgb]; omega)⟩
      · (try simp (maxSteps := 1000000) (disch := first | omega | assumption | exact Nat.le_of_ble_eq_true rfl) only [go_sem, ↓mwp_block, simprocAttr, w81])
        omega
  · obtain rfl : i = n := by omega
    clear hJ2
    have hzd := natsI_mem.1 (hp.mem_iff.1 (List.getElem_mem hjZ))
    have hnt : Z[j] ∉ Z.take j := fun hm => by
      have hsp : Z = Z.take j ++ Z[j] :: Z.drop (j + 1) := by rw [← List.drop_eq_getElem_cons hjZ, List.take_append_drop]
      rw [hsp] at hZn
      exact (List.nodup_append.1 hZn).2.2 _ hm _ (List.mem_cons_self ..) rfl
    obtain ⟨b, rfl, hbi, hbn, hbb⟩ : ∃ b : Nat, B = b ∧ b < i ∧ (b : Int) ∉ Z.take j ∧ ∀ k, k < i → (k : Int) ∉ Z.take j → k = b ∨ Rk (fun i => R.getD i.toNat 0) b k := by
      rcases hB with ⟨_, hall⟩ | h
      · have := hall (Z[j]).toNat (by omega)
        rw [Int.toNat_of_nonneg hzd.1] at this
        exact (hnt this).elim
      · exact h
    have hnext := next_of hp hs hjZ (b := (b : Int)) (by omega) hbn (fun x hx0 hxn hxt => by
      rcases hbb x.toNat (by omega) (by rw [Int.toNat_of_nonneg hx0]; exact hxt) with h | h
      · exact .inl (by omega)
      · rw [Int.toNat_of_nonneg hx0] at h; exact .inr h)
    have htk : Z.take (j + 1) = Z.take j ++ [(b : Int)] := by rw [List.take_succ_eq_append_getElem hjZ, hnext]
    have hbl : (bump Q (Z.take j)).length = i := by rw [bump_len]; omega
    have hbd := bump_bound (by omega) (Z.take j) _ hqd _ (List.getElem_mem (l := bump Q (Z.take j)) (n := b) (by omega))
    have hgd : (bump Q (Z.take j)).getD b 0 = (bump Q (Z.take j))[b]'(by omega) := by rw [List.getD_eq_getElem?_getD, List.getElem?_eq_getElem (by omega)]; rfl
    have ho := own_rd S.p2 (List.getElem?_eq_getElem (i := b) (by omega))
    rw [List.length_take] at hbd
    generalize hx : (bump Q (Z.take j))[b]'(by omega) = x at ho hbd hgd
    have w1 : IntKind.i64.wrap (x + 1) = x + 1 := wrap_i64 (by omega) (by omega)
    have w2 : IntKind.i64.wrap ((lf : Int) - j - 1) = (lf : Int) - ((j + 1 : Nat) : Int) := by rw [wrap_i64 (by omega) (by omega)]; omega
    (try simp (maxSteps := 1000000) (disch := first | omega | assumption | exact Nat.le_of_ble_eq_true rfl) only [go_sem, ↓mwp_block, simprocAttr, w15, e15, w16])
    refine st_setOwn (i := b) (x := true) lEnc_len S (by rw [givenL_len]; omega) rfl rfl rfl rfl ?_
    clear S ho
    intro h S
    have ho := own_rd S.p2 (List.getElem?_eq_getElem (i := b) (by omega))
    rw [hx] at ho
    (try simp (maxSteps := 1000000) (disch := first | omega | assumption | exact Nat.le_of_ble_eq_true rfl) only [go_sem, ↓mwp_block, simprocAttr, w9, e9, w16, ho, w1])
    refine st_setOwn (i := b) (x := x + 1) zEnc_len S.p2 (by omega) rfl rfl rfl rfl ?_
    clear S ho
    intro h S
    (try simp (maxSteps := 1000000) (disch := first | omega | assumption | exact Nat.le_of_ble_eq_true rfl) only [go_sem, ↓mwp_block, simprocAttr, w11, e11, w2])
    rw [givenL_set _ hbi, ← htk] at S
    refine hJ _ _ ?_ ?_
    · (try simp (maxSteps := 1000000) (disch := first | omega | assumption | exact Nat.le_of_ble_eq_true rfl) only [go_sem, ↓mwp_block, simprocAttr, w7, w9, w10, w15, e7, e9, e10, e15])
      refine ⟨j + 1, by omega, rfl, ?_⟩
      rw [htk, bump_snoc, Int.toNat_natCast, hgd, ← htk]
      exact S.p1.p2.p1
    · (try simp (maxSteps := 1000000) (disch := first | omega | assumption | exact Nat.le_of_ble_eq_true rfl) only [go_sem, ↓mwp_block, simprocAttr, e11])
      omega
end
end Go.Proofs.Ytblalmgahfbalaa.MX
