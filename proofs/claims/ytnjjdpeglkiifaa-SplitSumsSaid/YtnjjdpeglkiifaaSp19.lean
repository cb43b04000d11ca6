/- Split: the reference's Shares. -/
import Derived.Test.YtnjjdpeglkiifaaSp18
import Derived.Test.YtnjjdpeglkiifaaTb5
namespace Go.Proofs.Ytnjjdpeglkiifaa.MX
open Go Go.Proofs
set_option linter.unusedSimpArgs false
set_option linter.unusedVariables false
set_option maxHeartbeats 8000000
def lEnc (b : Bool) : List Value := [.bool b]
theorem lEnc_len (b : Bool) : (lEnc b).length = 1 := rfl
def givenL (n : Nat) (T : List Int) : List Bool := (List.range n).map fun i : Nat => decide ((i : Int) ∈ T)
theorem givenL_len (n : Nat) (T : List Int) : (givenL n T).length = n := by simp [givenL]
theorem givenL_nil (n : Nat) : givenL n [] = List.replicate n false := by
  apply List.ext_getElem
  · simp [givenL]
  · intro i h1 h2; simp [givenL]
theorem givenL_set {n k : Nat} (T : List Int) (hk : k < n) : (givenL n T).set k true = givenL n (T ++ [(k : Int)]) := by
  apply List.ext_getElem
  · simp [givenL]
  · intro i h1 h2
    simp only [givenL, List.getElem_set, List.getElem_map, List.getElem_range, List.mem_append, List.mem_singleton]
    by_cases e : k = i
    · subst e; simp
    · rw [if_neg e]
      have : ¬ (i : Int) = k := by omega
      simp [this]
/-- The best of the first i that are not given yet. -/
def BestOf (Kf : Int → Nat) (T : List Int) (i : Nat) (B : Int) : Prop :=
  (B = -1 ∧ ∀ k, k < i → (k : Int) ∈ T) ∨ ∃ b : Nat, B = b ∧ b < i ∧ (b : Int) ∉ T ∧ ∀ k, k < i → (k : Int) ∉ T → k = b ∨ Rk Kf b k
theorem BestOf.zero (Kf : Int → Nat) (T : List Int) : BestOf Kf T 0 (-1) := .inl ⟨rfl, fun k hk => by omega⟩
theorem BestOf.skip {Kf : Int → Nat} {T : List Int} {i : Nat} {B : Int} (h : BestOf Kf T i B) (hi : (i : Int) ∈ T) : BestOf Kf T (i + 1) B := by
  rcases h with ⟨rfl, h⟩ | ⟨b, rfl, hb, hn, h⟩
  · refine .inl ⟨rfl, fun k hk => ?_⟩
    by_cases e : k = i
    · subst e; exact hi
    · exact h k (by omega)
  · refine .inr ⟨b, rfl, by omega, hn, fun k hk hkn => ?_⟩
    by_cases e : k = i
    · subst e; exact (hkn hi).elim
    · exact h k (by omega) hkn
theorem BestOf.first {Kf : Int → Nat} {T : List Int} {i : Nat} (h : BestOf Kf T i (-1)) (hi : (i : Int) ∉ T) : BestOf Kf T (i + 1) i := by
  rcases h with ⟨_, h⟩ | ⟨b, hb, _⟩
  · refine .inr ⟨i, rfl, by omega, hi, fun k hk hkn => ?_⟩
    by_cases e : k = i
    · exact .inl e
    · exact (hkn (h k (by omega))).elim
  · omega
theorem BestOf.more {Kf : Int → Nat} {T : List Int} {i b : Nat} (h : BestOf Kf T i (b : Int)) (hi : (i : Int) ∉ T) (hk : Kf b < Kf i) : BestOf Kf T (i + 1) i := by
  rcases h with ⟨hb, _⟩ | ⟨b', hb, hb1, hb2, h⟩
  · omega
  · obtain rfl : b = b' := by omega
    refine .inr ⟨i, rfl, by omega, hi, fun k hk' hkn => ?_⟩
    by_cases e : k = i
    · exact .inl e
    · refine .inr (.inl ?_)
      rcases h k (by omega) hkn with rfl | h
      · exact hk
      · unfold Rk at h; omega
theorem BestOf.less {Kf : Int → Nat} {T : List Int} {i b : Nat} (h : BestOf Kf T i (b : Int)) (hi : (i : Int) ∉ T) (hk : ¬ Kf b < Kf i) : BestOf Kf T (i + 1) b := by
  rcases h with ⟨hb, _⟩ | ⟨b', hb, hb1, hb2, h⟩
  · omega
  · obtain rfl : b = b' := by omega
    refine .inr ⟨b, rfl, by omega, hb2, fun k hk' hkn => ?_⟩
    by_cases e : k = i
    · refine .inr ?_
      subst e
      unfold Rk
      omega
    · exact h k (by omega) hkn
section
variable {h0 h : Heap} {l : List HP}
theorem RShares_ok {A : Option Addr} {c : Nat} (sum : Nat) (ws : List Int) {out0 : List Int} (ha : ∀ h', St h0 h' l → Arr zEnc 1 h' A ws) (hask : askE sum ws = 0) (hI : IsShares sum (effW ws).sum (effW ws) out0) (S : St h0 h l) :
    CallsH Try.prog 31 [.int .i64 sum, .slice A ws.length c] h fun v h' => St h0 h' (ownA zEnc 1 2 v out0 :: l) := by
  obtain ⟨hw0, hw1, hf, hs0, hs1, hs2, hs3⟩ := ask0 hask
  obtain ⟨hep, hem⟩ := effW_pos hask
  have hel := effW_len ws
  obtain ⟨Z, hp, hs, hout⟩ := hI
  (refine enterK c_recoupref05_Shares (Nat.le_of_ble_eq_true rfl) fun K hK => ?_; (try simp (maxSteps := 1000000) (disch := first | omega | assumption | exact Nat.le_of_ble_eq_true rfl) only [go_sem, ↓mwp_block, simprocAttr, ir_recoupref05_Shares]))
  refine loop_intro (fun ρ h' => h' = h ∧ ρ 0 = .int .i64 sum ∧ ρ 1 = .slice A ws.length c ∧ ρ 19 = .int .i64 ws.length ∧ ∃ i : Nat, ρ 20 = .int .i64 i ∧ i ≤ ws.length ∧ ρ 5 = .int .i64 (ws.take i).sum) (fun ρ _ => ws.length - (iv (ρ 20)).toNat) ?_ ?_
  · (try simp (maxSteps := 1000000) (disch := first | omega | assumption | exact Nat.le_of_ble_eq_true rfl) only [go_sem, ↓mwp_block, simprocAttr])
    exact ⟨0, rfl, by omega, rfl⟩
  rintro ρ h' J hJ ⟨rfl, e0, e1, e19, i, e20, hi, e5⟩
  (try simp (maxSteps := 1000000) (disch := first | omega | assumption | exact Nat.le_of_ble_eq_true rfl) only [go_sem, ↓mwp_block, simprocAttr, e19, e20])
  refine cond_dec (fun hlt => ?_) (fun hlt => ?_)
  · have hil : i < ws.length := by omega
    obtain ⟨bk, off, rfl, hr⟩ := ha h' S i hil
    have hr := rd1_part hr 0 (by omega)
    simp only [zEnc, List.getElem?_cons_zero, Nat.add_zero] at hr
    have hb := sum_bound (ws := ws.take i) fun w hw => hf w (List.mem_of_mem_take hw)
    have hz := hf _ (List.getElem_mem hil)
    have hbl : (ws.take i).length ≤ 200 := by rw [List.length_take]; omega
    unfold fitW at hz
    have w1 : IntKind.i64.wrap ((ws.take i).sum + ws[i]) = (ws.take i).sum + ws[i] := wrap_i64 (by omega) (by omega)
    (try simp (maxSteps := 1000000) (disch := first | omega | assumption | exact Nat.le_of_ble_eq_true rfl) only [go_sem, ↓mwp_block, simprocAttr, e1, e20, hr, e5, w1])
    refine hJ _ _ ?_ ?_
    · (try simp (maxSteps := 1000000) (disch := first | omega | assumption | exact Nat.le_of_ble_eq_true rfl) only [go_sem, ↓mwp_block, simprocAttr, e0, e1, e19])
      refine ⟨i + 1, rfl, by omega, ?_⟩
      rw [List.take_succ_eq_append_getElem hil, List.sum_append]
      simp
    · (try simp (maxSteps := 1000000) (disch := first | omega | assumption | exact Nat.le_of_ble_eq_true rfl) only [go_sem, ↓mwp_block, simprocAttr, e20])
      omega
  obtain rfl : i = ws.length := by omega
  rw [List.take_length] at e5
  clear hJ
  (try simp (maxSteps := 1000000) (disch := first | omega | assumption | exact Nat.le_of_ble_eq_true rfl) only [go_sem, ↓mwp_block, simprocAttr])
  (refine st_alloc S ?_; clear S; intro g h S; (try simp only [splice_cons, splice_nil, List.set_cons_zero, List.set_cons_succ, Nat.zero_add, Nat.reduceAdd, List.cons_append, List.nil_append] at S); ((try clear F); have F := S.all; (try simp only [all_cons, all_nil, says_cell, and_true] at F)))
  have S := S.cellOwn (enc := zEnc) (sz := 1) (ys := []) zEnc_len rfl (by decide)
  clear F
  (try simp (maxSteps := 1000000) (disch := first | omega | assumption | exact Nat.le_of_ble_eq_true rfl) only [go_sem, ↓mwp_block, simprocAttr, e1])
  refine st_append (bytes := 8) (ys := ws) zEnc_len (by omega) zEnc_plain rfl S rfl (src_arr zEnc_len (ha _ S.tl) rfl) (by simp only [List.length_nil]; omega) (by simp only [List.length_nil]; omega) ?_
  clear S
  intro v h S
  rw [List.nil_append] at S
  obtain ⟨A7, c7, rfl⟩ := S.sl
  obtain ⟨b7, rfl⟩ := S.ownAt (by omega)
  (try simp (maxSteps := 1000000) (disch := first | omega | assumption | exact Nat.le_of_ble_eq_true rfl) only [go_sem, ↓mwp_block, simprocAttr, e5])
  refine cond_cut (fun ρ' h' => ρ' 0 = .int .i64 sum ∧ ρ' 5 = .int .i64 ((effW ws).sum : Nat) ∧ ρ' 7 = .slice (some ⟨b7, 0, none⟩) ws.length c7 ∧ St h0 h' (ownA zEnc 1 2 (.slice (some ⟨b7, 0, none⟩) ws.length c7) ((effW ws).map Int.ofNat) :: l)) ?_ ?_ ?_
  · intro hb1 J hJ
    have hall : ws.sum = 0 := of_dcd_true hb1
    have he : effW ws = List.replicate ws.length 1 := by unfold effW; rw [if_pos hall]
    (try simp (maxSteps := 1000000) (disch := first | omega | assumption | exact Nat.le_of_ble_eq_true rfl) only [go_sem, ↓mwp_block, simprocAttr])
    refine loop_intro (fun ρ' h' => ρ' 0 = .int .i64 sum ∧ ρ' 7 = .slice (some ⟨b7, 0, none⟩) ws.length c7 ∧ ρ' 36 = .int .i64 ws.length ∧ ∃ i : Nat, ρ' 37 = .int .i64 i ∧ i ≤ ws.length ∧ ∃ X : List Int, X.length = ws.length - i ∧
      St h0 h' (ownA zEnc 1 2 (.slice (some ⟨b7, 0, none⟩) ws.length c7) (List.replicate i 1 ++ X) :: l)) (fun ρ' _ => ws.length - (iv (ρ' 37)).toNat) ?_ ?_
    · (try simp (maxSteps := 1000000) (disch := first | omega | assumption | exact Nat.le_of_ble_eq_true rfl) only [go_sem, ↓mwp_block, simprocAttr, e0])
      exact ⟨0, rfl, by omega, ws, rfl, S⟩
    clear S
    rintro ρ h J' hJ' ⟨e0, e7, e36, i, e37, hi, X, hX, S⟩
    (try simp (maxSteps := 1000000) (disch := first | omega | assumption | exact Nat.le_of_ble_eq_true rfl) only [go_sem, ↓mwp_block, simprocAttr, e36, e37])
    refine cond_dec (fun hlt => ?_) (fun hlt => ?_)
    · have hil : i < ws.length := by omega
      (try simp (maxSteps := 1000000) (disch := first | omega | assumption | exact Nat.le_of_ble_eq_true rfl) only [go_sem, ↓mwp_block, simprocAttr, e37, e7])
      refine st_setOwn (i := i) (x := 1) zEnc_len S (by rw [List.length_append, List.length_replicate]; omega) rfl rfl rfl rfl ?_
      clear S
      intro h S
      (try simp (maxSteps := 1000000) (disch := first | omega | assumption | exact Nat.le_of_ble_eq_true rfl) only [go_sem, ↓mwp_block, simprocAttr, e37])
      refine hJ' _ _ ?_ ?_
      · (try simp (maxSteps := 1000000) (disch := first | omega | assumption | exact Nat.le_of_ble_eq_true rfl) only [go_sem, ↓mwp_block, simprocAttr, e0, e7, e36])
        obtain ⟨x, X', rfl⟩ : ∃ x X', X = x :: X' := by
          cases X with
          | nil => simp at hX; omega
          | cons x X' => exact ⟨x, X', rfl⟩
        refine ⟨i + 1, rfl, by omega, X', by rw [List.length_cons] at hX; omega, ?_⟩
        have : (List.replicate i (1 : Int) ++ x :: X').set i 1 = List.replicate (i + 1) 1 ++ X' := by
          rw [List.set_append_right _ _ (by rw [List.length_replicate]; exact Nat.le_refl _), List.length_replicate, Nat.sub_self, List.set_cons_zero, List.replicate_succ', List.append_assoc]
          rfl
        rw [this] at S
        exact S
      · (try simp (maxSteps := 1000000) (disch := first | omega | assumption | exact Nat.le_of_ble_eq_true rfl) only [go_sem, ↓mwp_block, simprocAttr, e37])
        omega
    · obtain rfl : i = ws.length := by omega
      rw [Nat.sub_self] at hX
      rw [List.eq_nil_of_length_eq_zero hX, List.append_nil] at S
      (try simp (maxSteps := 1000000) (disch := first | omega | assumption | exact Nat.le_of_ble_eq_true rfl) only [go_sem, ↓mwp_block, simprocAttr, e7])
      refine hJ _ _ ?_
      (try simp (maxSteps := 1000000) (disch := first | omega | assumption | exact Nat.le_of_ble_eq_true rfl) only [go_sem, ↓mwp_block, simprocAttr, e0])
      rw [he, sum_ones, List.map_replicate]
      exact ⟨rfl, e7, S⟩
  · intro hb1 J hJ
    have hall : ¬ ws.sum = 0 := of_dcd_false hb1
    have he : effW ws = ws.map Int.toNat := by unfold effW; rw [if_neg hall]
    (try simp (maxSteps := 1000000) (disch := first | omega | assumption | exact Nat.le_of_ble_eq_true rfl) only [go_sem, ↓mwp_block, simprocAttr])
    refine hJ _ _ ?_
    (try simp (maxSteps := 1000000) (disch := first | omega | assumption | exact Nat.le_of_ble_eq_true rfl) only [go_sem, ↓mwp_block, simprocAttr, e0])
    have hsum := sumI (ws.map Int.toNat)
    rw [toNat_back hf] at hsum
    rw [he, toNat_back hf, ← hsum]
    exact ⟨e5, S⟩
  clear S
  rintro ρ h ⟨e0, e5, e7, S⟩
  have hask1 : (effW ws).length ≤ 200 := by omega
  have hn0 : 0 < (effW ws).length := by omega
  have hsb : sum ≤ 1125899906842624 := by omega
  rw [← hel] at e7 S
  clear ha hask hf hw0 hw1 hs1 hs2 hs3 hel
  generalize effW ws = W at *
  obtain ⟨hl1, hl2⟩ := left_law hep (rfl : W.sum = W.sum) (sum := sum)
  have hQl : ((quoW sum W.sum W).map Int.ofNat).length = W.length := by rw [List.length_map, quoW_len]
  have hRl : (restW sum W.sum W).length = W.length := restW_len ..
  have S : St h0 h (ownA uEnc 1 100 (.slice none 0 0) [] :: ownA zEnc 1 2 (.slice none 0 0) [] :: _) := S.nilS.nilS
  (try simp (maxSteps := 1000000) (disch := first | omega | assumption | exact Nat.le_of_ble_eq_true rfl) only [go_sem, ↓mwp_block, simprocAttr, e0, e7])
  refine loop_intro (fun ρ' h' => ρ' 0 = .int .i64 sum ∧ ρ' 5 = .int .i64 (W.sum : Nat) ∧ ρ' 7 = .slice (some ⟨b7, 0, none⟩) W.length c7 ∧ ρ' 48 = .int .i64 W.length ∧ ∃ (i : Nat) (Ao Ar : Option Addr) (co cr : Nat), ρ' 49 = .int .i64 i ∧ i ≤ W.length ∧ ρ' 9 = .slice Ao i co ∧ ρ' 10 = .slice Ar i cr ∧ ρ' 11 = .int .i64 ((sum : Int) - ((quoW sum W.sum W).take i).sum) ∧
    St h0 h' (ownA uEnc 1 100 (.slice Ar i cr) ((restW sum W.sum W).take i) :: ownA zEnc 1 2 (.slice Ao i co) (((quoW sum W.sum W).map Int.ofNat).take i) :: ownA zEnc 1 2 (.slice (some ⟨b7, 0, none⟩) W.length c7) (W.map Int.ofNat) :: l)) (fun ρ' _ => W.length - (iv (ρ' 49)).toNat) ?_ ?_
  · (try simp (maxSteps := 1000000) (disch := first | omega | assumption | exact Nat.le_of_ble_eq_true rfl) only [go_sem, ↓mwp_block, simprocAttr, e0, e5, e7])
    exact ⟨0, none, none, 0, 0, rfl, by omega, rfl, rfl, by simp, by simpa using S⟩
  clear S e0 e5 e7
  rintro ρ h J hJ ⟨e0, e5, e7, e48, i, Ao, Ar, co, cr, e49, hi, e9, e10, e11, S⟩
  (try simp (maxSteps := 1000000) (disch := first | omega | assumption | exact Nat.le_of_ble_eq_true rfl) only [go_sem, ↓mwp_block, simprocAttr, e48, e49])
  refine cond_dec (fun hlt => ?_) (fun hlt => ?_)
  · have hil : i < W.length := by omega
    have hr := own_rd S.p2 (i := i) (x := (W[i] : Nat)) (by rw [List.getElem?_map, List.getElem?_eq_getElem hil]; rfl)
    have hwm : W[i] ≤ W.sum := le_sumN (List.getElem_mem hil)
    have hqb : sum * W[i] / W.sum ≤ sum := by
      apply Nat.le_of_mul_le_mul_right (c := W.sum) _ hep
      exact Nat.le_trans (Nat.div_mul_le_self _ _) (Nat.mul_le_mul_left _ hwm)
    have hqn : (quoW sum W.sum W)[i]'(by rw [quoW_len]; exact hil) = sum * W[i] / W.sum := by simp only [quoW, List.getElem_map]
    have hqi : ((quoW sum W.sum W).map Int.ofNat)[i]'(by rw [hQl]; exact hil) = ((sum * W[i] / W.sum : Nat) : Int) := by rw [List.getElem_map, hqn]; rfl
    have hri : (restW sum W.sum W)[i]'(by rw [hRl]; exact hil) = sum * W[i] % W.sum := by simp only [restW, List.getElem_map]
    have hts : ((quoW sum W.sum W).take (i + 1)).sum = ((quoW sum W.sum W).take i).sum + sum * W[i] / W.sum := by rw [List.take_succ_eq_append_getElem (by rw [quoW_len]; exact hil), List.sum_append, hqn]; simp
    have htl : ((quoW sum W.sum W).take (i + 1)).sum ≤ (quoW sum W.sum W).sum := by
      conv => rhs; rw [← List.take_append_drop (i + 1) (quoW sum W.sum W), List.sum_append]
      exact Nat.le_add_right _ _
    have wl : IntKind.i64.wrap ((sum : Int) - ((quoW sum W.sum W).take i).sum - ((sum * W[i] / W.sum : Nat) : Int)) = (sum : Int) - ((quoW sum W.sum W).take (i + 1)).sum := by
      rw [hts, wrap_i64 (by omega) (by omega)]
      omega
    have hdv := divided_ok sum W[i] W.sum (by omega) hwm hep hem h
    generalize hq : sum * W[i] / W.sum = q at *
    generalize hrr : sum * W[i] % W.sum = r at *
    generalize hw : W[i] = w at *
    (try simp (maxSteps := 1000000) (disch := first | omega | assumption | exact Nat.le_of_ble_eq_true rfl) only [go_sem, ↓mwp_block, simprocAttr, e0, e7, e49, hr, e5])
    refine call_intro hdv ?_
    rintro _ _ ⟨rfl, rfl⟩
    (try simp (maxSteps := 1000000) (disch := first | omega | assumption | exact Nat.le_of_ble_eq_true rfl) only [go_sem, ↓mwp_block, simprocAttr, e9])
    (refine st_alloc S ?_; clear S; intro g h S; (try simp only [splice_cons, splice_nil, List.set_cons_zero, List.set_cons_succ, Nat.zero_add, Nat.reduceAdd, List.cons_append, List.nil_append] at S); ((try clear F); have F := S.all; (try simp only [all_cons, all_nil, says_cell, and_true] at F)))
    (try simp (maxSteps := 1000000) (disch := first | omega | assumption | exact Nat.le_of_ble_eq_true rfl) only [go_sem, ↓mwp_block, simprocAttr])
    refine st_append1 (bytes := 8) (x := (q : Int)) zEnc_len (by omega) zEnc_plain rfl rfl S.p2.p1 (by rw [List.length_take]; omega) (by rw [List.length_take]; omega) ?_
    clear S F hr hdv
    intro v h S
    rw [← hqi, ← List.take_succ_eq_append_getElem] at S
    obtain ⟨Ao, co, rfl⟩ := S.sl
    have hlo : (((quoW sum W.sum W).map Int.ofNat).take (i + 1)).length = i + 1 := by rw [List.length_take, hQl]; omega
    rw [hlo] at S ⊢
    (try simp (maxSteps := 1000000) (disch := first | omega | assumption | exact Nat.le_of_ble_eq_true rfl) only [go_sem, ↓mwp_block, simprocAttr, e10])
    (refine st_alloc S ?_; clear S; intro g2 h S; (try simp only [splice_cons, splice_nil, List.set_cons_zero, List.set_cons_succ, Nat.zero_add, Nat.reduceAdd, List.cons_append, List.nil_append] at S); ((try clear F); have F := S.all; (try simp only [all_cons, all_nil, says_cell, and_true] at F)))
    (try simp (maxSteps := 1000000) (disch := first | omega | assumption | exact Nat.le_of_ble_eq_true rfl) only [go_sem, ↓mwp_block, simprocAttr])
    refine st_append1 (bytes := 8) (x := r) uEnc_len (by omega) uEnc_plain rfl rfl S.p2.p1 (by rw [List.length_take]; omega) (by rw [List.length_take]; omega) ?_
    clear S F
    intro v h S
    rw [← hri, ← List.take_succ_eq_append_getElem] at S
    obtain ⟨Ar, cr, rfl⟩ := S.sl
    have hlr : ((restW sum W.sum W).take (i + 1)).length = i + 1 := by rw [List.length_take, hRl]; omega
    rw [hlr] at S ⊢
    (try simp (maxSteps := 1000000) (disch := first | omega | assumption | exact Nat.le_of_ble_eq_true rfl) only [go_sem, ↓mwp_block, simprocAttr, e11, wl, e49])
    refine hJ _ _ ?_ ?_
    · (try simp (maxSteps := 1000000) (disch := first | omega | assumption | exact Nat.le_of_ble_eq_true rfl) only [go_sem, ↓mwp_block, simprocAttr, e0, e5, e7, e48])
      exact ⟨i + 1, Ao, Ar, co, cr, rfl, by omega, rfl, rfl, rfl, S⟩
    · (try simp (maxSteps := 1000000) (disch := first | omega | assumption | exact Nat.le_of_ble_eq_true rfl) only [go_sem, ↓mwp_block, simprocAttr, e49])
      omega
  obtain rfl : i = W.length := by omega
  rw [List.take_of_length_le (by rw [hRl]; exact Nat.le_refl _), List.take_of_length_le (by rw [hQl]; exact Nat.le_refl _)] at S
  rw [List.take_of_length_le (by rw [quoW_len]; exact Nat.le_refl _)] at e11
  clear hJ
  (try simp (maxSteps := 1000000) (disch := first | omega | assumption | exact Nat.le_of_ble_eq_true rfl) only [go_sem, ↓mwp_block, simprocAttr, e7])
  refine st_make false lEnc_len rfl S (by omega) (by omega) ?_
  clear S
  intro v h S
  obtain ⟨Ag, cg, rfl⟩ := S.sl
  rw [List.length_replicate, ← givenL_nil] at S
  rw [List.length_replicate]
  have hZl : Z.length = W.length := by rw [hp.length_eq, natsI_len]
  have hZn : Z.Nodup := hp.nodup_iff.2 (natsI_nodup _)
  obtain ⟨lf, hlf⟩ : ∃ lf, sum - (quoW sum W.sum W).sum = lf := ⟨_, rfl⟩
  rw [show (sum : Int) - ((quoW sum W.sum W).sum : Nat) = (lf : Nat) by omega] at e11
  rw [hlf] at hout
  have hqd : ∀ x ∈ (quoW sum W.sum W).map Int.ofNat, 0 ≤ x ∧ x ≤ (sum : Int) := by
    intro x hx
    simp only [List.mem_map] at hx
    obtain ⟨k, hk, rfl⟩ := hx
    have := le_sumN hk
    show (0 : Int) ≤ (k : Int) ∧ (k : Int) ≤ (sum : Int)
    omega
  generalize hQ : (quoW sum W.sum W).map Int.ofNat = Q at *
  generalize hR : restW sum W.sum W = R at *
  generalize hnn : W.length = n at *
  obtain ⟨bg, rfl⟩ := S.ownAt (by rw [givenL_len]; omega)
  obtain ⟨br, rfl⟩ := S.p1.ownAt (by omega)
  obtain ⟨bo, rfl⟩ := S.p2.ownAt (by omega)
  have hlc : lf < 1000000 := by omega
  (try simp (maxSteps := 1000000) (disch := first | omega | assumption | exact Nat.le_of_ble_eq_true rfl) only [go_sem, ↓mwp_block, simprocAttr])
  refine loop_intro (fun ρ' h' => ρ' 7 = .slice (some ⟨b7, 0, none⟩) n c7 ∧ ρ' 9 = .slice (some ⟨bo, 0, none⟩) n co ∧ ρ' 10 = .slice (some ⟨br, 0, none⟩) n cr ∧ ρ' 15 = .slice (some ⟨bg, 0, none⟩) n cg ∧ ∃ j : Nat, j ≤ lf ∧ ρ' 11 = .int .i64 ((lf : Int) - j) ∧
    St h0 h' (ownA lEnc 1 4 (.slice (some ⟨bg, 0, none⟩) n cg) (givenL n (Z.take j)) :: ownA uEnc 1 100 (.slice (some ⟨br, 0, none⟩) n cr) R :: ownA zEnc 1 2 (.slice (some ⟨bo, 0, none⟩) n co) (bump Q (Z.take j)) :: l)) (fun ρ' _ => (iv (ρ' 11)).toNat) ?_ ?_
  · (try simp (maxSteps := 1000000) (disch := first | omega | assumption | exact Nat.le_of_ble_eq_true rfl) only [go_sem, ↓mwp_block, simprocAttr, e7, e9, e10, e11])
    exact ⟨0, by omega, by simp, S.p3.tl⟩
  clear S e0 e5 e7 e48 e49 e9 e10 e11
  rintro ρ h J hJ ⟨e7, e9, e10, e15, j, hj, e11, S⟩
  by_cases hlt : (0 : Int) < (lf : Int) - j
  case neg =>
    obtain rfl : j = lf := by omega
    (try simp (maxSteps := 1000000) (disch := first | omega | assumption | exact Nat.le_of_ble_eq_true rfl) only [go_sem, ↓mwp_block, simprocAttr, e11, hlt])
    (try simp (maxSteps := 1000000) (disch := first | omega | assumption | exact Nat.le_of_ble_eq_true rfl) only [go_sem, ↓mwp_block, simprocAttr, e9])
    refine hK _ _ ?_
    rw [hout]
    exact S.p2.d1.d1
  have hjl : j < lf := by omega
  have hjZ : j < Z.length := by omega
  (try simp (maxSteps := 1000000) (disch := first | omega | assumption | exact Nat.le_of_ble_eq_true rfl) only [go_sem, ↓mwp_block, simprocAttr, e11, hlt, e7])
  refine loop_intro (fun ρ' h' => h' = h ∧ ρ' 7 = ρ 7 ∧ ρ' 9 = ρ 9 ∧ ρ' 10 = ρ 10 ∧ ρ' 11 = ρ 11 ∧ ρ' 15 = ρ 15 ∧ ρ' 80 = .int .i64 n ∧ ∃ (i : Nat) (B : Int), ρ' 81 = .int .i64 i ∧ i ≤ n ∧ ρ' 16 = .int .i64 B ∧ BestOf (fun i => R.getD i.toNat 0) (Z.take j) i B) (fun ρ' _ => n - (iv (ρ' 81)).toNat) ?_ ?_
  · (try simp (maxSteps := 1000000) (disch := first | omega | assumption | exact Nat.le_of_ble_eq_true rfl) only [go_sem, ↓mwp_block, simprocAttr, e7])
    exact ⟨0, -1, rfl, by omega, rfl, BestOf.zero _ _⟩
  rintro ρ2 h2 J2 hJ2 ⟨he2, w7, w9, w10, w11, w15, w80, i, B, w81, hi, w16, hB⟩
  subst he2
  (try simp (maxSteps := 1000000) (disch := first | omega | assumption | exact Nat.le_of_ble_eq_true rfl) only [go_sem, ↓mwp_block, simprocAttr, w80, w81])
  refine cond_dec (fun hil => ?_) (fun hil => ?_)
  · have hin : i < n := by omega
    have hgg : rd1 h2 (.pointer (some ⟨bg, i * 1, none⟩)) = some (.bool (decide ((i : Int) ∈ Z.take j))) := by
      obtain ⟨b', o', hA, hr⟩ := S.arr lEnc_len i (by rw [givenL_len]; exact hin)
      cases hA
      have := rd1_part hr 0 (by omega)
      simpa [lEnc, givenL] using this
    have hri := own_rdU S.p1 (i := i) (by omega)
    by_cases c1 : (i : Int) ∈ Z.take j
    · rw [decide_eq_true c1] at hgg
      (try simp (maxSteps := 1000000) (disch := first | omega | assumption | exact Nat.le_of_ble_eq_true rfl) only [go_sem, ↓mwp_block, simprocAttr])
      refine draw_eq ?_
      (try simp (maxSteps := 1000000) (disch := first | omega | assumption | exact Nat.le_of_ble_eq_true rfl) only [go_sem, ↓mwp_block, simprocAttr, w15, e15, w81, hgg])
      refine hJ2 _ _ ?_ ?_
      · (try simp (maxSteps := 1000000) (disch := first | omega | assumption | exact Nat.le_of_ble_eq_true rfl) only [go_sem, ↓mwp_block, simprocAttr, w7, w9, w10, w11, w15, w80, w16])
        exact ⟨i + 1, B, rfl, by omega, rfl, hB.skip c1⟩
      · (try simp (maxSteps := 1000000) (disch := first | omega | assumption | exact Nat.le_of_ble_eq_true rfl) only [go_sem, ↓mwp_block, simprocAttr, w81])
        omega
    rw [decide_eq_false c1] at hgg
    have hBB := hB
    rcases hB with ⟨rfl, _⟩ | ⟨b, rfl, hbi, _, _⟩
    · (try simp (maxSteps := 1000000) (disch := first | omega | assumption | exact Nat.le_of_ble_eq_true rfl) only [go_sem, ↓mwp_block, simprocAttr])
      refine draw_eq ?_
      (try simp (maxSteps := 1000000) (disch := first | omega | assumption | exact Nat.le_of_ble_eq_true rfl) only [go_sem, ↓mwp_block, simprocAttr, w15, e15, w81, hgg, w16])
      refine hJ2 _ _ ?_ ?_
      · (try simp (maxSteps := 1000000) (disch := first | omega | assumption | exact Nat.le_of_ble_eq_true rfl) only [go_sem, ↓mwp_block, simprocAttr, w7, w9, w10, w11, w15, w80])
        exact ⟨i + 1, i, rfl, by omega, rfl, hBB.first c1⟩
      · (try simp (maxSteps := 1000000) (disch := first | omega | assumption | exact Nat.le_of_ble_eq_true rfl) only [go_sem, ↓mwp_block, simprocAttr, w81])
        omega
    have hrb := own_rdU S.p1 (i := b) (by omega)
    have c2 : ¬ (b : Int) < 0 := by omega
    have hgi : R.getD (i : Int).toNat 0 = R[i]'(by omega) := by rw [Int.toNat_natCast, List.getD_eq_getElem?_getD, List.getElem?_eq_getElem (by omega)]; rfl
    have hgb : R.getD (b : Int).toNat 0 = R[b]'(by omega) := by rw [Int.toNat_natCast, List.getD_eq_getElem?_getD, List.getElem?_eq_getElem (by omega)]; rfl
    by_cases c3 : ((R[b]'(by omega) : Nat) : Int) < (R[i]'(by omega) : Nat)
    · (try simp (maxSteps := 1000000) (disch := first | omega | assumption | exact Nat.le_of_ble_eq_true rfl) only [go_sem, ↓mwp_block, simprocAttr])
      refine draw_eq ?_
      (try simp (maxSteps := 1000000) (disch := first | omega | assumption | exact Nat.le_of_ble_eq_true rfl) only [go_sem, ↓mwp_block, simprocAttr, w15, e15, w81, hgg, w16, c2, w10, e10, hri, hrb, c3])
      refine hJ2 _ _ ?_ ?_
      · (try simp (maxSteps := 1000000) (disch := first | omega | assumption | exact Nat.le_of_ble_eq_true rfl) only [go_sem, ↓mwp_block, simprocAttr, w7, w9, w10, w11, w15, w80])
        exact ⟨i + 1, i, rfl, by omega, rfl, hBB.more c1 (by rw [hgi, hgb]; omega)⟩
      · (try simp (maxSteps := 1000000) (disch := first | omega | assumption | exact Nat.le_of_ble_eq_true rfl) only [go_sem, ↓mwp_block, simprocAttr, w81])
        omega
    · (try simp (maxSteps := 1000000) (disch := first | omega | assumption | exact Nat.le_of_ble_eq_true rfl) only [go_sem, ↓mwp_block, simprocAttr])
      refine draw_eq ?_
      (try simp (maxSteps := 1000000) (disch := first | omega | assumption | exact Nat.le_of_ble_eq_true rfl) only [go_sem, ↓mwp_block, simprocAttr, w15, e15, w81, hgg, w16, c2, w10, e10, hri, hrb, c3])
      refine hJ2 _ _ ?_ ?_
      · (try simp (maxSteps := 1000000) (disch := first | omega | assumption | exact Nat.le_of_ble_eq_true rfl) only [go_sem, ↓mwp_block, simprocAttr, w7, w9, w10, w11, w15, w80, w16])
        exact ⟨i + 1, b, rfl, by omega, rfl, hBB.less c1 (by rw [hgi, hgb]; omega)⟩
      · (try simp (maxSteps := 1000000) (disch := first | omega | assumption | exact Nat.le_of_ble_eq_true rfl) only [go_sem, ↓mwp_block, simprocAttr, w81])
        omega
  · obtain rfl : i = n := by omega
    clear hJ2
    have hzd := natsI_mem.1 (hp.mem_iff.1 (List.getElem_mem hjZ))
    have hnt : Z[j] ∉ Z.take j := fun hm => by
      have hsp : Z = Z.take j ++ Z[j] :: Z.drop (j + 1) := by rw [← List.drop_eq_getElem_cons hjZ, List.take_append_drop]
      rw [hsp] at hZn
      exact (List.nodup_append.1 hZn).2.2 _ hm _ (List.mem_cons_self ..) rfl
    obtain ⟨b, rfl, hbi, hbn, hbb⟩ : ∃ b : Nat, B = b ∧ b < i ∧ (b : Int) ∉ Z.take j ∧ ∀ k, k < i → (k : Int) ∉ Z.take j → k = b ∨ Rk (fun i => R.getD i.toNat 0) b k := by
      rcases hB with ⟨_, hall⟩ | h
      · have := hall (Z[j]).toNat (by omega)
        rw [Int.toNat_of_nonneg hzd.1] at this
        exact (hnt this).elim
      · exact h
    have hnext := next_of hp hs hjZ (b := (b : Int)) (by omega) hbn (fun x hx0 hxn hxt => by
      rcases hbb x.toNat (by omega) (by rw [Int.toNat_of_nonneg hx0]; exact hxt) with h | h
      · exact .inl (by omega)
      · rw [Int.toNat_of_nonneg hx0] at h; exact .inr h)
    have htk : Z.take (j + 1) = Z.take j ++ [(b : Int)] := by rw [List.take_succ_eq_append_getElem hjZ, hnext]
    have hbl : (bump Q (Z.take j)).length = i := by rw [bump_len]; omega
    have hbd := bump_bound (by omega) (Z.take j) _ hqd _ (List.getElem_mem (l := bump Q (Z.take j)) (n := b) (by omega))
    have hgd : (bump Q (Z.take j)).getD b 0 = (bump Q (Z.take j))[b]'(by omega) := by rw [List.getD_eq_getElem?_getD, List.getElem?_eq_getElem (by omega)]; rfl
    have ho := own_rd S.p2 (List.getElem?_eq_getElem (i := b) (by omega))
    rw [List.length_take] at hbd
    generalize hx : (bump Q (Z.take j))[b]'(by omega) = x at ho hbd hgd
    have w1 : IntKind.i64.wrap (x + 1) = x + 1 := wrap_i64 (by omega) (by omega)
    have w2 : IntKind.i64.wrap ((lf : Int) - j - 1) = (lf : Int) - ((j + 1 : Nat) : Int) := by rw [wrap_i64 (by omega) (by omega)]; omega
    (try simp (maxSteps := 1000000) (disch := first | omega | assumption | exact Nat.le_of_ble_eq_true rfl) only [go_sem, ↓mwp_block, simprocAttr, w15, e15, w16])
    refine st_setOwn (i := b) (x := true) lEnc_len S (by rw [givenL_len]; omega) rfl rfl rfl rfl ?_
    clear S ho
    intro h S
    have ho := own_rd S.p2 (List.getElem?_eq_getElem (i := b) (by omega))
    rw [hx] at ho
    (try simp (maxSteps := 1000000) (disch := first | omega | assumption | exact Nat.le_of_ble_eq_true rfl) only [go_sem, ↓mwp_block, simprocAttr, w9, e9, w16, ho, w1])
    refine st_setOwn (i := b) (x := x + 1) zEnc_len S.p2 (by omega) rfl rfl rfl rfl ?_
    clear S ho
    intro h S
    (try simp (maxSteps := 1000000) (disch := first | omega | assumption | exact Nat.le_of_ble_eq_true rfl) only [go_sem, ↓mwp_block, simprocAttr, w11, e11, w2])
    rw [givenL_set _ hbi, ← htk] at S
    refine hJ _ _ ?_ ?_
    · (try simp (maxSteps := 1000000) (disch := first | omega | assumption | exact Nat.le_of_ble_eq_true rfl) only [go_sem, ↓mwp_block, simprocAttr, w7, w9, w10, w15, e7, e9, e10, e15])
      refine ⟨j + 1, by omega, rfl, ?_⟩
      rw [htk, bump_snoc, Int.toNat_natCast, hgd, ← htk]
      exact S.p1.p2.p1
    · (try simp (maxSteps := 1000000) (disch := first | omega | assumption | exact Nat.le_of_ble_eq_true rfl) only [go_sem, ↓mwp_block, simprocAttr, e11])
      omega
end
end Go.Proofs.Ytnjjdpeglkiifaa.MX
