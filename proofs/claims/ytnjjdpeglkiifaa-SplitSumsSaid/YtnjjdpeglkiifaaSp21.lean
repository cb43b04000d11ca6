/- Split: the law SplitSums. -/
import Derived.Test.YtnjjdpeglkiifaaSp20
namespace Go.Proofs.Ytnjjdpeglkiifaa.MX
open Go Go.Proofs
set_option linter.unusedSimpArgs false
set_option linter.unusedVariables false
set_option maxHeartbeats 8000000
theorem take_sum_le {l : List Int} (h : ∀ x ∈ l, 0 ≤ x) (i : Nat) : 0 ≤ (l.take i).sum ∧ (l.take i).sum ≤ l.sum := by
  have hn : ∀ {m : List Int}, (∀ x ∈ m, 0 ≤ x) → 0 ≤ m.sum := by
    intro m hm
    induction m with
    | nil => simp
    | cons x m ih =>
      rw [List.sum_cons]
      have := hm x (by simp)
      have := ih fun y hy => hm y (by simp [hy])
      omega
  have h1 := hn fun x hx => h x (List.mem_of_mem_take (i := i) hx)
  have h2 := hn fun x hx => h x (List.mem_of_mem_drop (i := i) hx)
  refine ⟨h1, ?_⟩
  conv => rhs; rw [← List.take_append_drop i l, List.sum_append]
  omega
/-- What the law asks of the shares, with the weights that were given. -/
theorem shares_sums {k : Nat} {ws out : List Int} (hask : askE k ws = 0) (hI : IsShares k (effW ws).sum (effW ws) out) :
    out.length = ws.length ∧ out.sum = k ∧ (∀ x ∈ out, 0 ≤ x) ∧
      (0 < ws.sum → ∀ i (hi : i < ws.length), ∃ w : Nat, ws[i] = (w : Int) ∧ w ≤ ws.sum.toNat ∧ (out.getD i 0 = ((k * w / ws.sum.toNat : Nat) : Int) ∨ out.getD i 0 = ((k * w / ws.sum.toNat : Nat) : Int) + 1)) ∧
      ∀ i m (hi : i < ws.length) (hm : m < i), ws[m] = ws[i] → out.getD m 0 = out.getD i 0 ∨ out.getD m 0 = out.getD i 0 + 1 := by
  obtain ⟨hw0, hw1, hf, hs0, hs1, hs2, hs3⟩ := ask0 hask
  obtain ⟨hep, hem⟩ := effW_pos hask
  have hel := effW_len ws
  obtain ⟨l1, l2, l3, l4⟩ := hI.law hep rfl
  refine ⟨by omega, l2, ?_, ?_, ?_⟩
  · intro x hx
    obtain ⟨i, hi, rfl⟩ := List.getElem_of_mem hx
    have e : out.getD i 0 = out[i] := by rw [List.getD_eq_getElem?_getD, List.getElem?_eq_getElem hi]; rfl
    have := l3 i (by omega)
    rw [e] at this
    rcases this with h | h
    · rw [h]; exact Int.natCast_nonneg _
    · rw [h]; exact Int.add_nonneg (Int.natCast_nonneg _) (by decide)
  · intro hp i hi
    have hsum := sumI (ws.map Int.toNat)
    rw [toNat_back hf] at hsum
    have he : effW ws = ws.map Int.toNat := by unfold effW; rw [if_neg (by omega)]
    have hfi := hf _ (List.getElem_mem hi)
    unfold fitW at hfi
    have h3 := l3 i (by omega)
    have hss : (effW ws).sum = ws.sum.toNat := by rw [he]; omega
    have hei : (effW ws)[i]'(by omega) = ws[i].toNat := by simp only [he, List.getElem_map]
    have hle : (ws.map Int.toNat)[i]'(by rw [List.length_map]; exact hi) ≤ (ws.map Int.toNat).sum := le_sumN (List.getElem_mem _)
    rw [List.getElem_map] at hle
    rw [hei, hss] at h3
    exact ⟨ws[i].toNat, by omega, by omega, h3⟩
  · intro i m hi hm hwm
    refine l4 i m (by omega) hm ?_
    by_cases hz : ws.sum = 0
    · have he : effW ws = List.replicate ws.length 1 := by unfold effW; rw [if_pos hz]
      simp only [he, List.getElem_replicate]
    · have he : effW ws = ws.map Int.toNat := by unfold effW; rw [if_neg hz]
      simp only [he, List.getElem_map, hwm]
section
variable {h0 h : Heap} {l : List HP}
theorem SplitSums_ok (sum : Int) (A : Option Addr) (c : Nat) (l : List D64) (h0 : Heap) (_ : -9223372036854775808 ≤ sum ∧ sum < 9223372036854775808) (ha : Arr D64.enc 1 h0 A l) (_ : l.length ≤ c) (_ : c ≤ maxLen) (_ : ∀ x ∈ l, x.ok) :
    CallsH Try.prog 8 [.int .i64 sum, .slice A l.length c] h0 fun v h' => v = .bool true ∧ Fr h0 h' [] := by
  have ha := arr_d64 ha
  rw [← List.length_map (f := D64.n)]
  generalize l.map D64.n = ws at *
  have ha' : ∀ {L : List HP} h', St h0 h' L → Arr zEnc 1 h' A ws := fun h' S => ha.fr S.fr (by simp)
  have S := St.nil h0
  by_cases h1 : (300 : Int) < ws.length
  · (refine enterK c_recouplaw06_SplitSums (Nat.le_of_ble_eq_true rfl) fun K hK => ?_; (try simp (maxSteps := 1000000) (disch := first | omega | assumption | exact Nat.le_of_ble_eq_true rfl) only [go_sem, ↓mwp_block, simprocAttr, ir_recouplaw06_SplitSums]))
    refine call_intro (awake06_ok _) ?_
    rintro _ h ⟨rfl, f1⟩
    (try simp (maxSteps := 1000000) (disch := first | omega | assumption | exact Nat.le_of_ble_eq_true rfl) only [go_sem, ↓mwp_block, simprocAttr, h1])
    refine call_intro (awake06_ok _) ?_
    rintro _ h' ⟨rfl, f2⟩
    (try simp (maxSteps := 1000000) (disch := first | omega | assumption | exact Nat.le_of_ble_eq_true rfl) only [go_sem, ↓mwp_block, simprocAttr])
    exact hK _ _ ⟨rfl, f1.trans f2⟩
  (refine enterK c_recouplaw06_SplitSums (Nat.le_of_ble_eq_true rfl) fun K hK => ?_; (try simp (maxSteps := 1000000) (disch := first | omega | assumption | exact Nat.le_of_ble_eq_true rfl) only [go_sem, ↓mwp_block, simprocAttr, ir_recouplaw06_SplitSums]))
  refine call_intro (awake06_ok _) ?_
  rintro _ h ⟨rfl, f1⟩
  have S := S.frame f1
  (try simp (maxSteps := 1000000) (disch := first | omega | assumption | exact Nat.le_of_ble_eq_true rfl) only [go_sem, ↓mwp_block, simprocAttr, h1])
  refine call_intro (SharesA_ok sum ws ha' (by omega) S) ?_
  clear S f1
  rintro _ h (⟨hask, rfl, S⟩ | ⟨hask, s, out, rfl, hI, hlo, S⟩)
  · (try simp (maxSteps := 1000000) (disch := first | omega | assumption | exact Nat.le_of_ble_eq_true rfl) only [go_sem, ↓mwp_block, simprocAttr, hask])
    exact hK _ _ ⟨rfl, S.fr⟩
  obtain ⟨hw0, hw1, hf, hs0, hs1, hs2, hs3⟩ := ask0 hask
  obtain ⟨k, rfl⟩ : ∃ k : Nat, sum = k := ⟨sum.toNat, by omega⟩
  rw [Int.toNat_natCast] at hI
  obtain ⟨l1, l2, l3, l4, l5⟩ := shares_sums hask hI
  have hnz : ∀ w ∈ ws, 0 ≤ w := fun w hw => (hf w hw).1
  obtain ⟨B, d, rfl⟩ := S.sl
  rw [hlo] at S ⊢
  obtain ⟨b, rfl⟩ := S.ownAt (by omega)
  have hg : ∀ i (hi : i < out.length), out.getD i 0 = out[i] := fun i hi => by rw [List.getD_eq_getElem?_getD, List.getElem?_eq_getElem hi]; rfl
  have hro : ∀ i, i < ws.length → rd1 h (.pointer (some ⟨b, i * 1, none⟩)) = some (.int .i64 (out.getD i 0)) := fun i hi => own_rd S (by rw [hg i (by omega), List.getElem?_eq_getElem (by omega)])
  have hA := ha' h S
  obtain ⟨bk, off, rfl, _⟩ := hA 0 hw0
  have hrw : ∀ i (hi : i < ws.length), rd1 h (.pointer (some ⟨bk, off + i * 1, none⟩)) = some (.int .i64 ws[i]) := fun i hi => by
    obtain ⟨b', o', hA', hr⟩ := hA i hi
    cases hA'
    have := rd1_part hr 0 (by omega)
    simpa [zEnc] using this
  have hfr := S.fr
  clear S hA ha ha' hI
  have hob : ∀ i, i < ws.length → 0 ≤ out.getD i 0 ∧ out.getD i 0 ≤ (k : Int) := fun i hi => by
    have h1 := take_sum_le l3 (i + 1)
    rw [List.take_succ_eq_append_getElem (by omega), List.sum_append] at h1
    have h2 := take_sum_le l3 i
    have h3 := l3 _ (List.getElem_mem (l := out) (n := i) (by omega))
    rw [hg i (by omega)]
    simp only [List.sum_cons, List.sum_nil] at h1
    omega
  (try simp (maxSteps := 1000000) (disch := first | omega | assumption | exact Nat.le_of_ble_eq_true rfl) only [go_sem, ↓mwp_block, simprocAttr])
  refine loop_intro (fun ρ' h' => h' = h ∧ ρ' 0 = .int .i64 k ∧ ρ' 1 = .slice (some ⟨bk, off, none⟩) ws.length c ∧ ρ' 5 = .slice (some ⟨b, 0, none⟩) ws.length d ∧ ρ' 34 = .int .i64 ws.length ∧ ∃ i : Nat, ρ' 35 = .int .i64 i ∧ i ≤ ws.length ∧ ρ' 7 = .int .i64 (ws.take i).sum ∧ ρ' 8 = .int .i64 (out.take i).sum) (fun ρ' _ => ws.length - (iv (ρ' 35)).toNat) ?_ ?_
  · (try simp (maxSteps := 1000000) (disch := first | omega | assumption | exact Nat.le_of_ble_eq_true rfl) only [go_sem, ↓mwp_block, simprocAttr])
    exact ⟨0, rfl, by omega, rfl, rfl⟩
  rintro ρ h2 J hJ ⟨rfl, e0, e1, e5, e34, i, e35, hi, e7, e8⟩
  (try simp (maxSteps := 1000000) (disch := first | omega | assumption | exact Nat.le_of_ble_eq_true rfl) only [go_sem, ↓mwp_block, simprocAttr, e34, e35])
  refine cond_dec (fun hlt => ?_) (fun hlt => ?_)
  · have hil : i < ws.length := by omega
    have hr1 := hrw i hil
    have hr2 := hro i hil
    have h1 := take_sum_le hnz i
    have h2 := take_sum_le hnz (i + 1)
    have h3 := take_sum_le l3 i
    have h4 := take_sum_le l3 (i + 1)
    rw [List.take_succ_eq_append_getElem hil, List.sum_append] at h2
    rw [List.take_succ_eq_append_getElem (by omega), List.sum_append, ← hg i (by omega)] at h4
    simp only [List.sum_cons, List.sum_nil] at h2 h4
    have w1 : IntKind.i64.wrap ((ws.take i).sum + ws[i]) = (ws.take i).sum + ws[i] := wrap_i64 (by omega) (by omega)
    have w2 : IntKind.i64.wrap ((out.take i).sum + out.getD i 0) = (out.take i).sum + out.getD i 0 := wrap_i64 (by omega) (by omega)
    (try simp (maxSteps := 1000000) (disch := first | omega | assumption | exact Nat.le_of_ble_eq_true rfl) only [go_sem, ↓mwp_block, simprocAttr, e1, e5, e35, hr1, hr2, e7, e8, w1, w2])
    refine hJ _ _ ?_ ?_
    · (try simp (maxSteps := 1000000) (disch := first | omega | assumption | exact Nat.le_of_ble_eq_true rfl) only [go_sem, ↓mwp_block, simprocAttr, e0, e1, e5, e34])
      refine ⟨i + 1, rfl, by omega, ?_, ?_⟩
      · rw [List.take_succ_eq_append_getElem hil, List.sum_append]; simp
      · rw [List.take_succ_eq_append_getElem (by omega), List.sum_append, hg i (by omega)]; simp
    · (try simp (maxSteps := 1000000) (disch := first | omega | assumption | exact Nat.le_of_ble_eq_true rfl) only [go_sem, ↓mwp_block, simprocAttr, e35])
      omega
  obtain rfl : i = ws.length := by omega
  rw [List.take_length] at e7
  rw [← l1, List.take_length, l2] at e8
  clear hJ
  obtain ⟨al, hal⟩ : ∃ al : Nat, ws.sum = al := ⟨ws.sum.toNat, by omega⟩
  rw [hal] at e7
  have hex : ws.sum.toNat = al := by omega
  rw [hex] at l4
  (try simp (maxSteps := 1000000) (disch := first | omega | assumption | exact Nat.le_of_ble_eq_true rfl) only [go_sem, ↓mwp_block, simprocAttr, e5])
  refine loop_intro (fun ρ' h' => h' = h2 ∧ ρ' 0 = .int .i64 k ∧ ρ' 1 = .slice (some ⟨bk, off, none⟩) ws.length c ∧ ρ' 5 = .slice (some ⟨b, 0, none⟩) ws.length d ∧ ρ' 7 = .int .i64 al ∧ ρ' 8 = .int .i64 k ∧ ρ' 52 = .int .i64 ws.length ∧ ∃ i : Nat, ρ' 53 = .int .i64 i ∧ i ≤ ws.length) (fun ρ' _ => ws.length - (iv (ρ' 53)).toNat) ?_ ?_
  · (try simp (maxSteps := 1000000) (disch := first | omega | assumption | exact Nat.le_of_ble_eq_true rfl) only [go_sem, ↓mwp_block, simprocAttr, e0, e1, e5, e7, e8])
    exact ⟨0, rfl, by omega⟩
  clear e0 e1 e5 e34 e35 e7 e8
  rintro ρ h3 J hJ ⟨rfl, e0, e1, e5, e7, e8, e52, i, e53, hi⟩
  (try simp (maxSteps := 1000000) (disch := first | omega | assumption | exact Nat.le_of_ble_eq_true rfl) only [go_sem, ↓mwp_block, simprocAttr, e52, e53])
  refine cond_dec (fun hlt => ?_) (fun hlt => ?_)
  case refine_2 =>
    (try simp (maxSteps := 1000000) (disch := first | omega | assumption | exact Nat.le_of_ble_eq_true rfl) only [go_sem, ↓mwp_block, simprocAttr, e8, e0, e5, e1])
    exact hK _ _ ⟨rfl, hfr⟩
  have hil : i < ws.length := by omega
  have hr1 := hrw i hil
  have hr2 := hro i hil
  have hbi := hob i hil
  have c0 : ¬ out.getD i 0 < 0 := by omega
  (try simp (maxSteps := 1000000) (disch := first | omega | assumption | exact Nat.le_of_ble_eq_true rfl) only [go_sem, ↓mwp_block, simprocAttr, e5, e53, hr2, c0, e7])
  refine cond_cut (fun ρ' h' => h' = h3 ∧ ρ' 0 = .int .i64 k ∧ ρ' 1 = .slice (some ⟨bk, off, none⟩) ws.length c ∧ ρ' 5 = .slice (some ⟨b, 0, none⟩) ws.length d ∧ ρ' 7 = .int .i64 al ∧ ρ' 8 = .int .i64 k ∧ ρ' 52 = .int .i64 ws.length ∧ ρ' 53 = .int .i64 i ∧ ρ' 10 = .int .i64 i) ?_ ?_ ?_
  · intro hb J' hJ'
    have hp : (0 : Int) < al := of_dcd_true hb
    obtain ⟨w, hw, hwa, hq⟩ := l4 (by omega) i hil
    rw [hw] at hr1
    have hdv := RPart_ok k w al (by omega) hwa (by omega) (by omega) h3
    have hqb : k * w / al ≤ k := by
      apply Nat.le_of_mul_le_mul_right (c := al) _ (by omega)
      exact Nat.le_trans (Nat.div_mul_le_self _ _) (Nat.mul_le_mul_left _ hwa)
    generalize k * w / al = q at *
    have w3 : IntKind.i64.wrap ((q : Int) + 1) = (q : Int) + 1 := wrap_i64 (by omega) (by omega)
    (try simp (maxSteps := 1000000) (disch := first | omega | assumption | exact Nat.le_of_ble_eq_true rfl) only [go_sem, ↓mwp_block, simprocAttr, e0, e1, e53, hr1, e7])
    refine call_intro hdv ?_
    rintro _ _ ⟨rfl, rfl⟩
    rcases hq with hq | hq
    · (try simp (maxSteps := 1000000) (disch := first | omega | assumption | exact Nat.le_of_ble_eq_true rfl) only [go_sem, ↓mwp_block, simprocAttr, e5, e53, hr2, hq])
      refine hJ' _ _ ?_
      (try simp (maxSteps := 1000000) (disch := first | omega | assumption | exact Nat.le_of_ble_eq_true rfl) only [go_sem, ↓mwp_block, simprocAttr, e0, e1, e5, e7, e8, e52, e53])
    · have hne : ¬ out.getD i 0 = (q : Int) := by omega
      have hne2 : ¬ (q : Int) + 1 = (q : Int) := by omega
      rw [hq] at hr2
      (try simp (maxSteps := 1000000) (disch := first | omega | assumption | exact Nat.le_of_ble_eq_true rfl) only [go_sem, ↓mwp_block, simprocAttr, e5, e53, hr2, hne2, w3])
      refine hJ' _ _ ?_
      (try simp (maxSteps := 1000000) (disch := first | omega | assumption | exact Nat.le_of_ble_eq_true rfl) only [go_sem, ↓mwp_block, simprocAttr, e0, e1, e5, e7, e8, e52, e53])
  · intro hb J' hJ'
    (try simp (maxSteps := 1000000) (disch := first | omega | assumption | exact Nat.le_of_ble_eq_true rfl) only [go_sem, ↓mwp_block, simprocAttr])
    refine hJ' _ _ ?_
    (try simp (maxSteps := 1000000) (disch := first | omega | assumption | exact Nat.le_of_ble_eq_true rfl) only [go_sem, ↓mwp_block, simprocAttr, e0, e1, e5, e7, e8, e52, e53])
  have p53 := e53
  clear e0 e1 e5 e7 e8 e52 e53
  rintro ρ h4 ⟨rfl, e0, e1, e5, e7, e8, e52, e53, e10⟩
  (try simp (maxSteps := 1000000) (disch := first | omega | assumption | exact Nat.le_of_ble_eq_true rfl) only [go_sem, ↓mwp_block, simprocAttr, e10])
  refine loop_intro (fun ρ' h' => h' = h4 ∧ ρ' 0 = .int .i64 k ∧ ρ' 1 = .slice (some ⟨bk, off, none⟩) ws.length c ∧ ρ' 5 = .slice (some ⟨b, 0, none⟩) ws.length d ∧ ρ' 7 = .int .i64 al ∧ ρ' 8 = .int .i64 k ∧ ρ' 52 = .int .i64 ws.length ∧ ρ' 53 = .int .i64 i ∧ ρ' 10 = .int .i64 i ∧ ρ' 92 = .int .i64 i ∧ ∃ m : Nat, ρ' 93 = .int .i64 m ∧ m ≤ i) (fun ρ' _ => i - (iv (ρ' 93)).toNat) ?_ ?_
  · (try simp (maxSteps := 1000000) (disch := first | omega | assumption | exact Nat.le_of_ble_eq_true rfl) only [go_sem, ↓mwp_block, simprocAttr, e0, e1, e5, e7, e8, e52, e53, e10])
    exact ⟨0, rfl, by omega⟩
  clear e0 e1 e5 e7 e8 e52 e53 e10
  rintro ρ h5 J' hJ' ⟨rfl, e0, e1, e5, e7, e8, e52, e53, e10, e92, m, e93, hm⟩
  (try simp (maxSteps := 1000000) (disch := first | omega | assumption | exact Nat.le_of_ble_eq_true rfl) only [go_sem, ↓mwp_block, simprocAttr, e92, e93])
  refine cond_dec (fun hml => ?_) (fun hml => ?_)
  · have hmi : m < i := by omega
    have hr3 := hrw m (by omega)
    have hr4 := hro m (by omega)
    have hlaw := l5 i m hil hmi
    generalize out.getD m 0 = om at *
    generalize out.getD i 0 = oi at *
    have w4 : IntKind.i64.wrap (oi + 1) = oi + 1 := wrap_i64 (by omega) (by omega)
    by_cases hww : ws[m]'(by omega) = ws[i]
    · have hlaw := hlaw hww
      rw [← hww] at hr1
      have t1 : ¬ om < oi := by omega
      have t2 : ¬ oi + 1 < om := by omega
      (try simp (maxSteps := 1000000) (disch := first | omega | assumption | exact Nat.le_of_ble_eq_true rfl) only [go_sem, ↓mwp_block, simprocAttr])
      refine draw_eq ?_
      (try simp (maxSteps := 1000000) (disch := first | omega | assumption | exact Nat.le_of_ble_eq_true rfl) only [go_sem, ↓mwp_block, simprocAttr, e1, e5, e93, e10, hr1, hr2, hr3, hr4, t1, t2, w4])
      refine hJ' _ _ ?_ ?_
      · (try simp (maxSteps := 1000000) (disch := first | omega | assumption | exact Nat.le_of_ble_eq_true rfl) only [go_sem, ↓mwp_block, simprocAttr, e0, e1, e5, e7, e8, e52, e53, e10, e92])
        exact ⟨m + 1, rfl, by omega⟩
      · (try simp (maxSteps := 1000000) (disch := first | omega | assumption | exact Nat.le_of_ble_eq_true rfl) only [go_sem, ↓mwp_block, simprocAttr, e93])
        omega
    · (try simp (maxSteps := 1000000) (disch := first | omega | assumption | exact Nat.le_of_ble_eq_true rfl) only [go_sem, ↓mwp_block, simprocAttr])
      refine draw_eq ?_
      (try simp (maxSteps := 1000000) (disch := first | omega | assumption | exact Nat.le_of_ble_eq_true rfl) only [go_sem, ↓mwp_block, simprocAttr, e1, e5, e93, e10, hr1, hr2, hr3, hr4, hww])
      refine hJ' _ _ ?_ ?_
      · (try simp (maxSteps := 1000000) (disch := first | omega | assumption | exact Nat.le_of_ble_eq_true rfl) only [go_sem, ↓mwp_block, simprocAttr, e0, e1, e5, e7, e8, e52, e53, e10, e92])
        exact ⟨m + 1, rfl, by omega⟩
      · (try simp (maxSteps := 1000000) (disch := first | omega | assumption | exact Nat.le_of_ble_eq_true rfl) only [go_sem, ↓mwp_block, simprocAttr, e93])
        omega
  · (try simp (maxSteps := 1000000) (disch := first | omega | assumption | exact Nat.le_of_ble_eq_true rfl) only [go_sem, ↓mwp_block, simprocAttr, e53])
    refine hJ _ _ ?_ ?_
    · (try simp (maxSteps := 1000000) (disch := first | omega | assumption | exact Nat.le_of_ble_eq_true rfl) only [go_sem, ↓mwp_block, simprocAttr, e0, e1, e5, e7, e8, e52])
      exact ⟨i + 1, rfl, by omega⟩
    · (try simp (maxSteps := 1000000) (disch := first | omega | assumption | exact Nat.le_of_ble_eq_true rfl) only [go_sem, ↓mwp_block, simprocAttr, p53])
      omega
end
end Go.Proofs.Ytnjjdpeglkiifaa.MX
