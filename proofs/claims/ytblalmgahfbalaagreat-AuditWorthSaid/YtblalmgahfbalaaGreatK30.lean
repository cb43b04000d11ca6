/- Texts in one file: Au3, Mp1. -/
import Derived.Test.YtblalmgahfbalaaGreatK29
import Derived.Test.YtblalmgahfbalaaGreatK09

/- The audit: returns; still. -/
namespace Go.Proofs.YtblalmgahfbalaaGreat.MX
open Go Go.Proofs
set_option linter.unusedSimpArgs false
set_option linter.unusedVariables false
set_option maxHeartbeats 16000000
def retOK (s : Sag) (i : Nat) (r : Ret) : Prop := r.num = (i : Int) + 1 ∧ (r.state = 5 → 0 < waitsOf r.num s.O) ∧ (doneR r → waitsOf r.num s.O = 0 ∧ (0 ≤ r.res → placeK s.K r.res = 8))
def returnsOK (s : Sag) : Prop := ∀ (i : Nat) (r : Ret), s.R[i]? = some r → retOK s i r
def stillOK (s : Sag) : Prop := (∀ r ∈ s.R, doneR r) ∧ ∀ m ∈ s.O, m.kind < 1
section
variable {h0 h : Heap} {l : List HP} {p : Nat} {D : Cfg} {s : Sag} {U : List Unt} {u : Value}
theorem AReturns_ok (W : Aud D U s) (S : St h0 h (sagaA p D u s :: l)) :
    CallsH Tryz.prog 15 [.pointer (some ⟨p, 0, none⟩)] h fun v h' => v = .bool (dcd (returnsOK s)) ∧ St h0 h' (sagaA p D u s :: l) := by
  have hrl := W.rl
  have hkl := W.kl
  have hol := W.ol
  (refine enterK c_audit_Returns (Nat.le_of_ble_eq_true rfl) fun K hK => ?_; (try simp (maxSteps := 1000000) (disch := first | omega | assumption | exact Nat.le_of_ble_eq_true rfl) only [go_sem, ↓mwp_block, simprocAttr, ir_audit_Returns]))
  refine call_intro (StockS_ok S (by omega)) ?_
  clear S
  rintro _ h ⟨k, rfl, S⟩
  (try simp (maxSteps := 1000000) (disch := first | omega | assumption | exact Nat.le_of_ble_eq_true rfl) only [go_sem, ↓mwp_block, simprocAttr])
  refine call_intro (OutboxS_ok S.p1 hol) ?_
  clear S
  rintro _ h ⟨o, rfl, S⟩
  (try simp (maxSteps := 1000000) (disch := first | omega | assumption | exact Nat.le_of_ble_eq_true rfl) only [go_sem, ↓mwp_block, simprocAttr])
  refine call_intro (RMAs_ok S.p1 (by omega) W.len) ?_
  clear S
  intro v h S
  obtain ⟨vs, hvs, S⟩ := St.rmas.1 S
  have hvl : vs.length ≤ 100 := by rw [← List.length_map (f := RetV.r), hvs]; omega
  obtain ⟨B, d, rfl⟩ := S.sl
  (try simp (maxSteps := 1000000) (disch := first | omega | assumption | exact Nat.le_of_ble_eq_true rfl) only [go_sem, ↓mwp_block, simprocAttr])
  refine loop_intro (fun ρ h' => ρ 3 = .pointer (some ⟨k, 0, none⟩) ∧ ρ 4 = .pointer (some ⟨o, 0, none⟩) ∧ ρ 15 = .slice B vs.length d ∧ ρ 16 = .int .i64 vs.length ∧ ∃ i : Nat, ρ 17 = .int .i64 i ∧ i ≤ vs.length ∧ (∀ (j : Nat) (r : Ret), j < i → s.R[j]? = some r → retOK s j r) ∧
    St h0 h' (ownA RetV.enc 14 35 (.slice B vs.length d) vs :: (vs.map retRow ++ (sagaA p D u s :: obxA o s.key s.O :: stockA k s.K :: l)))) (fun ρ _ => vs.length - (iv (ρ 17)).toNat) ?_ ?_
  · (try simp (maxSteps := 1000000) (disch := first | omega | assumption | exact Nat.le_of_ble_eq_true rfl) only [go_sem, ↓mwp_block, simprocAttr])
    exact ⟨0, rfl, by omega, fun j r hj => absurd hj (by omega), S⟩
  clear S
  rintro ρ h J hJ ⟨e3, e4, e15, e16, i, e17, hi, hok, S⟩
  (try simp (maxSteps := 1000000) (disch := first | omega | assumption | exact Nat.le_of_ble_eq_true rfl) only [go_sem, ↓mwp_block, simprocAttr, e16, e17])
  refine cond_dec (fun hlt => ?_) (fun hlt => ?_)
  · have hil : i < vs.length := by omega
    have hmem := List.getElem_mem hil
    obtain ⟨b1, o1, hA, q1⟩ := (S.arr RetV.enc_len).at hil
    have hin : ∀ {h' : Heap} {L : List HP}, St h0 h' L → (∀ x ∈ vs.map retRow, x ∈ L) → Arr zEnc 1 h' vs[i].A vs[i].r.us ∧ Arr zEnc 1 h' vs[i].B vs[i].r.gs := fun S hL => retRow_in S (hL _ (List.mem_map_of_mem hmem))
    have hmr : vs[i].r ∈ s.R := by rw [← hvs]; exact List.mem_map_of_mem hmem
    have hat : s.R[i]? = some vs[i].r := by rw [← hvs, List.getElem?_map, List.getElem?_eq_getElem hil]; rfl
    obtain ⟨hright, _⟩ := W.rr _ hmr
    have hlen := W.len _ hmr
    have hbad : ¬ retOK s i vs[i].r → ¬ returnsOK s := fun hn h => hn (h i _ hat)
    have hsn : retOK s i vs[i].r → ∀ (j : Nat) (r : Ret), j < i + 1 → s.R[j]? = some r → retOK s j r := fun hx j r hj hr => by
      by_cases e : j = i
      · rw [e] at hr ⊢
        rw [hat] at hr
        cases hr
        exact hx
      · exact hok j r (by omega) hr
    generalize vs[i] = x at *
    (try simp (maxSteps := 1000000) (disch := first | omega | assumption | exact Nat.le_of_ble_eq_true rfl) only [go_sem, ↓mwp_block, simprocAttr, e15, e17, hA, q1])
    (refine st_alloc S ?_; clear S; intro q h S; (try simp only [splice_cons, splice_nil, List.set_cons_zero, List.set_cons_succ, Nat.zero_add, Nat.reduceAdd, List.cons_append, List.nil_append] at S); ((try clear F); have F := S.all; (try simp only [all_cons, all_nil, says_cell, and_true] at F)))
    (try simp (maxSteps := 1000000) (disch := first | omega | assumption | exact Nat.le_of_ble_eq_true rfl) only [go_sem, ↓mwp_block, simprocAttr, F, RetV.enc])
    refine st_store S rfl rfl (Nat.le_of_ble_eq_true rfl) ?_
    clear S F q1
    intro h S
    (try simp only [splice_cons, splice_nil, List.set_cons_zero, List.set_cons_succ, Nat.zero_add, Nat.reduceAdd, List.cons_append, List.nil_append] at S)
    have S : St h0 h (cellA q x.enc 35 :: _) := S
    ((try clear F); have F := S.all; (try simp only [all_cons, all_nil, says_cell, and_true] at F))
    (try simp (maxSteps := 1000000) (disch := first | omega | assumption | exact Nat.le_of_ble_eq_true rfl) only [go_sem, ↓mwp_block, simprocAttr, F, e4, RetV.enc])
    obtain ⟨M, S1⟩ := st_mem S (X := obxA o s.key s.O) (by simp)
    refine call_intro (WaitsO_ok x.r.num S1 hol) ?_
    clear S1 M
    rintro _ h ⟨rfl, f1⟩
    have S := S.frame f1
    clear f1
    ((try clear F); have F := S.all; (try simp only [all_cons, all_nil, says_cell, and_true] at F))
    (try simp (maxSteps := 1000000) (disch := first | omega | assumption | exact Nat.le_of_ble_eq_true rfl) only [go_sem, ↓mwp_block, simprocAttr, F, RetV.enc])
    have hin' := hin S fun z hz => by simp only [List.mem_cons, List.mem_append]; exact .inr (.inr (.inl hz))
    refine call_intro (RmaRight_ok x hin'.1 hin'.2 hlen.1 hlen.2) ?_
    clear hin'
    rintro _ h ⟨rfl, f1⟩
    have S := S.frame f1
    clear f1
    rw [dcd_true hright]
    have hrow : retOK s i x.r ↔ (x.r.num = (i : Int) + 1 ∧ (x.r.state = 5 → 0 < waitsOf x.r.num s.O) ∧ (doneR x.r → waitsOf x.r.num s.O = 0 ∧ (0 ≤ x.r.res → placeK s.K x.r.res = 8))) := Iff.rfl
    generalize waitsOf x.r.num s.O = wt at *
    ((try clear F); have F := S.all; (try simp only [all_cons, all_nil, says_cell, and_true] at F))
    by_cases k1 : x.r.num = (i : Int) + 1
    case neg =>
      (try simp (maxSteps := 1000000) (disch := first | omega | assumption | exact Nat.le_of_ble_eq_true rfl) only [go_sem, ↓mwp_block, simprocAttr, F, RetV.enc])
      exact hK _ _ ⟨by rw [dcd_false (hbad fun h => k1 (hrow.1 h).1)], S.tl.tl.dropL.d1.d1⟩
    by_cases k2 : x.r.state = 5
    · by_cases k3 : (0 : Int) < (wt : Int)
      case neg =>
        (try simp (maxSteps := 1000000) (disch := first | omega | assumption | exact Nat.le_of_ble_eq_true rfl) only [go_sem, ↓mwp_block, simprocAttr, F, RetV.enc])
        exact hK _ _ ⟨by rw [dcd_false (hbad fun h => by have := (hrow.1 h).2.1 k2; omega)], S.tl.tl.dropL.d1.d1⟩
      have k4 : ¬ doneR x.r := fun h => by have := h.1; omega
      (try simp (maxSteps := 1000000) (disch := first | omega | assumption | exact Nat.le_of_ble_eq_true rfl) only [go_sem, ↓mwp_block, simprocAttr, F, RetV.enc])
      refine call_intro (RDone_ok x _) ?_
      rintro _ h ⟨rfl, f1⟩
      have S := S.frame f1
      clear f1
      rw [dcd_false k4]
      (try simp (maxSteps := 1000000) (disch := first | omega | assumption | exact Nat.le_of_ble_eq_true rfl) only [go_sem, ↓mwp_block, simprocAttr, e17])
      refine hJ _ _ ?_ ?_
      · (try simp (maxSteps := 1000000) (disch := first | omega | assumption | exact Nat.le_of_ble_eq_true rfl) only [go_sem, ↓mwp_block, simprocAttr, e3, e4, e15, e16])
        exact ⟨i + 1, rfl, by omega, hsn (hrow.2 ⟨k1, fun _ => by omega, fun h => absurd h k4⟩), S.tl⟩
      · (try simp (maxSteps := 1000000) (disch := first | omega | assumption | exact Nat.le_of_ble_eq_true rfl) only [go_sem, ↓mwp_block, simprocAttr, e17])
        omega
    by_cases k4 : doneR x.r
    case neg =>
      (try simp (maxSteps := 1000000) (disch := first | omega | assumption | exact Nat.le_of_ble_eq_true rfl) only [go_sem, ↓mwp_block, simprocAttr, F, RetV.enc])
      refine call_intro (RDone_ok x _) ?_
      rintro _ h ⟨rfl, f1⟩
      have S := S.frame f1
      clear f1
      rw [dcd_false k4]
      (try simp (maxSteps := 1000000) (disch := first | omega | assumption | exact Nat.le_of_ble_eq_true rfl) only [go_sem, ↓mwp_block, simprocAttr, e17])
      refine hJ _ _ ?_ ?_
      · (try simp (maxSteps := 1000000) (disch := first | omega | assumption | exact Nat.le_of_ble_eq_true rfl) only [go_sem, ↓mwp_block, simprocAttr, e3, e4, e15, e16])
        exact ⟨i + 1, rfl, by omega, hsn (hrow.2 ⟨k1, fun h => absurd h k2, fun h => absurd h k4⟩), S.tl⟩
      · (try simp (maxSteps := 1000000) (disch := first | omega | assumption | exact Nat.le_of_ble_eq_true rfl) only [go_sem, ↓mwp_block, simprocAttr, e17])
        omega
    by_cases k3 : (0 : Int) < (wt : Int)
    · (try simp (maxSteps := 1000000) (disch := first | omega | assumption | exact Nat.le_of_ble_eq_true rfl) only [go_sem, ↓mwp_block, simprocAttr, F, RetV.enc])
      refine call_intro (RDone_ok x _) ?_
      rintro _ h ⟨rfl, f1⟩
      have S := S.frame f1
      clear f1
      rw [dcd_true k4]
      (try simp (maxSteps := 1000000) (disch := first | omega | assumption | exact Nat.le_of_ble_eq_true rfl) only [go_sem, ↓mwp_block, simprocAttr])
      exact hK _ _ ⟨by rw [dcd_false (hbad fun h => by have := ((hrow.1 h).2.2 k4).1; omega)], S.tl.tl.dropL.d1.d1⟩
    by_cases k5 : 0 ≤ x.r.res
    case neg =>
      (try simp (maxSteps := 1000000) (disch := first | omega | assumption | exact Nat.le_of_ble_eq_true rfl) only [go_sem, ↓mwp_block, simprocAttr, F, RetV.enc])
      refine call_intro (RDone_ok x _) ?_
      rintro _ h ⟨rfl, f1⟩
      have S := S.frame f1
      clear f1
      rw [dcd_true k4]
      ((try clear F); have F := S.all; (try simp only [all_cons, all_nil, says_cell, and_true] at F))
      (try simp (maxSteps := 1000000) (disch := first | omega | assumption | exact Nat.le_of_ble_eq_true rfl) only [go_sem, ↓mwp_block, simprocAttr, F, RetV.enc, e17])
      refine hJ _ _ ?_ ?_
      · (try simp (maxSteps := 1000000) (disch := first | omega | assumption | exact Nat.le_of_ble_eq_true rfl) only [go_sem, ↓mwp_block, simprocAttr, e3, e4, e15, e16])
        exact ⟨i + 1, rfl, by omega, hsn (hrow.2 ⟨k1, fun h => absurd h k2, fun _ => ⟨by omega, fun h => absurd h k5⟩⟩), S.tl⟩
      · (try simp (maxSteps := 1000000) (disch := first | omega | assumption | exact Nat.le_of_ble_eq_true rfl) only [go_sem, ↓mwp_block, simprocAttr, e17])
        omega
    (try simp (maxSteps := 1000000) (disch := first | omega | assumption | exact Nat.le_of_ble_eq_true rfl) only [go_sem, ↓mwp_block, simprocAttr, F, RetV.enc])
    refine call_intro (RDone_ok x _) ?_
    rintro _ h ⟨rfl, f1⟩
    have S := S.frame f1
    clear f1
    rw [dcd_true k4]
    ((try clear F); have F := S.all; (try simp only [all_cons, all_nil, says_cell, and_true] at F))
    (try simp (maxSteps := 1000000) (disch := first | omega | assumption | exact Nat.le_of_ble_eq_true rfl) only [go_sem, ↓mwp_block, simprocAttr, F, RetV.enc, e3])
    obtain ⟨M, S1⟩ := st_mem S (X := stockA k s.K) (by simp)
    refine call_intro (PlaceK_ok x.r.res S1) ?_
    clear S1 M
    rintro _ _ ⟨rfl, rfl⟩
    by_cases k6 : placeK s.K x.r.res = 8
    · (try simp (maxSteps := 1000000) (disch := first | omega | assumption | exact Nat.le_of_ble_eq_true rfl) only [go_sem, ↓mwp_block, simprocAttr, k6, e17])
      refine hJ _ _ ?_ ?_
      · (try simp (maxSteps := 1000000) (disch := first | omega | assumption | exact Nat.le_of_ble_eq_true rfl) only [go_sem, ↓mwp_block, simprocAttr, e3, e4, e15, e16])
        exact ⟨i + 1, rfl, by omega, hsn (hrow.2 ⟨k1, fun h => absurd h k2, fun _ => ⟨by omega, fun _ => k6⟩⟩), S.tl⟩
      · (try simp (maxSteps := 1000000) (disch := first | omega | assumption | exact Nat.le_of_ble_eq_true rfl) only [go_sem, ↓mwp_block, simprocAttr, e17])
        omega
    · (try simp (maxSteps := 1000000) (disch := first | omega | assumption | exact Nat.le_of_ble_eq_true rfl) only [go_sem, ↓mwp_block, simprocAttr])
      exact hK _ _ ⟨by rw [dcd_false (hbad fun h => k6 (((hrow.1 h).2.2 k4).2 (by omega)))], S.tl.tl.dropL.d1.d1⟩
  obtain rfl : i = vs.length := by omega
  have hfin : returnsOK s := fun j r hr => hok j r (by
    have h1 : j < s.R.length := by
      by_cases hj : j < s.R.length
      · exact hj
      · rw [List.getElem?_eq_none (by omega)] at hr; cases hr
    rw [← hvs, List.length_map] at h1
    exact h1) hr
  (try simp (maxSteps := 1000000) (disch := first | omega | assumption | exact Nat.le_of_ble_eq_true rfl) only [go_sem, ↓mwp_block, simprocAttr])
  exact hK _ _ ⟨by rw [dcd_true hfin], S.tl.dropL.d1.d1⟩
theorem AStill_ok (W : Aud D U s) (S : St h0 h (sagaA p D u s :: l)) :
    CallsH Tryz.prog 16 [.pointer (some ⟨p, 0, none⟩)] h fun v h' => v = .bool (dcd (stillOK s)) ∧ St h0 h' (sagaA p D u s :: l) := by
  have hrl := W.rl
  have hol := W.ol
  (refine enterK c_audit_Still (Nat.le_of_ble_eq_true rfl) fun K hK => ?_; (try simp (maxSteps := 1000000) (disch := first | omega | assumption | exact Nat.le_of_ble_eq_true rfl) only [go_sem, ↓mwp_block, simprocAttr, ir_audit_Still]))
  refine call_intro (RMAs_ok S (by omega) W.len) ?_
  clear S
  intro v h S
  obtain ⟨vs, hvs, S⟩ := St.rmas.1 S
  have hvl : vs.length ≤ 100 := by rw [← List.length_map (f := RetV.r), hvs]; omega
  obtain ⟨B, d, rfl⟩ := S.sl
  (try simp (maxSteps := 1000000) (disch := first | omega | assumption | exact Nat.le_of_ble_eq_true rfl) only [go_sem, ↓mwp_block, simprocAttr])
  refine loop_intro (fun ρ h' => ρ 0 = .pointer (some ⟨p, 0, none⟩) ∧ ρ 10 = .slice B vs.length d ∧ ρ 11 = .int .i64 vs.length ∧ ∃ i : Nat, ρ 12 = .int .i64 i ∧ i ≤ vs.length ∧ (∀ r ∈ (vs.take i).map RetV.r, doneR r) ∧
    St h0 h' (ownA RetV.enc 14 35 (.slice B vs.length d) vs :: (vs.map retRow ++ (sagaA p D u s :: l)))) (fun ρ _ => vs.length - (iv (ρ 12)).toNat) ?_ ?_
  · (try simp (maxSteps := 1000000) (disch := first | omega | assumption | exact Nat.le_of_ble_eq_true rfl) only [go_sem, ↓mwp_block, simprocAttr])
    exact ⟨0, rfl, by omega, by simp, S⟩
  clear S
  rintro ρ h J hJ ⟨e0, e10, e11, i, e12, hi, hok, S⟩
  (try simp (maxSteps := 1000000) (disch := first | omega | assumption | exact Nat.le_of_ble_eq_true rfl) only [go_sem, ↓mwp_block, simprocAttr, e11, e12])
  refine cond_dec (fun hlt => ?_) (fun hlt => ?_)
  · have hil : i < vs.length := by omega
    have hmem := List.getElem_mem hil
    obtain ⟨b1, o1, hA, q1⟩ := (S.arr RetV.enc_len).at hil
    have hmr : vs[i].r ∈ s.R := by rw [← hvs]; exact List.mem_map_of_mem hmem
    have hsn := rows_snoc hil hok
    generalize vs[i] = x at *
    (try simp (maxSteps := 1000000) (disch := first | omega | assumption | exact Nat.le_of_ble_eq_true rfl) only [go_sem, ↓mwp_block, simprocAttr, e10, e12, hA, q1])
    (refine st_alloc S ?_; clear S; intro q h S; (try simp only [splice_cons, splice_nil, List.set_cons_zero, List.set_cons_succ, Nat.zero_add, Nat.reduceAdd, List.cons_append, List.nil_append] at S); ((try clear F); have F := S.all; (try simp only [all_cons, all_nil, says_cell, and_true] at F)))
    (try simp (maxSteps := 1000000) (disch := first | omega | assumption | exact Nat.le_of_ble_eq_true rfl) only [go_sem, ↓mwp_block, simprocAttr, F, RetV.enc])
    refine st_store S rfl rfl (Nat.le_of_ble_eq_true rfl) ?_
    clear S F q1
    intro h S
    (try simp only [splice_cons, splice_nil, List.set_cons_zero, List.set_cons_succ, Nat.zero_add, Nat.reduceAdd, List.cons_append, List.nil_append] at S)
    have S : St h0 h (cellA q x.enc 35 :: _) := S
    ((try clear F); have F := S.all; (try simp only [all_cons, all_nil, says_cell, and_true] at F))
    (try simp (maxSteps := 1000000) (disch := first | omega | assumption | exact Nat.le_of_ble_eq_true rfl) only [go_sem, ↓mwp_block, simprocAttr, F, RetV.enc])
    refine call_intro (RDone_ok x _) ?_
    rintro _ h ⟨rfl, f1⟩
    have S := S.frame f1
    clear f1
    by_cases k4 : doneR x.r
    case neg =>
      rw [dcd_false k4]
      (try simp (maxSteps := 1000000) (disch := first | omega | assumption | exact Nat.le_of_ble_eq_true rfl) only [go_sem, ↓mwp_block, simprocAttr])
      exact hK _ _ ⟨by rw [dcd_false fun h => k4 (h.1 _ hmr)], S.tl.tl.dropL⟩
    rw [dcd_true k4]
    (try simp (maxSteps := 1000000) (disch := first | omega | assumption | exact Nat.le_of_ble_eq_true rfl) only [go_sem, ↓mwp_block, simprocAttr, e12])
    refine hJ _ _ ?_ ?_
    · (try simp (maxSteps := 1000000) (disch := first | omega | assumption | exact Nat.le_of_ble_eq_true rfl) only [go_sem, ↓mwp_block, simprocAttr, e0, e10, e11])
      exact ⟨i + 1, rfl, by omega, hsn k4, S.tl⟩
    · (try simp (maxSteps := 1000000) (disch := first | omega | assumption | exact Nat.le_of_ble_eq_true rfl) only [go_sem, ↓mwp_block, simprocAttr, e12])
      omega
  obtain rfl : i = vs.length := by omega
  rw [List.take_length, hvs] at hok
  have S := S.tl.dropL
  clear hJ
  (try simp (maxSteps := 1000000) (disch := first | omega | assumption | exact Nat.le_of_ble_eq_true rfl) only [go_sem, ↓mwp_block, simprocAttr, e0])
  refine call_intro (OutboxS_ok S hol) ?_
  clear S
  rintro _ h ⟨o, rfl, S⟩
  (try simp (maxSteps := 1000000) (disch := first | omega | assumption | exact Nat.le_of_ble_eq_true rfl) only [go_sem, ↓mwp_block, simprocAttr])
  refine call_intro (AllO_ok S hol) ?_
  clear S
  intro v h S
  obtain ⟨C, e, rfl⟩ := S.sl
  (try simp (maxSteps := 1000000) (disch := first | omega | assumption | exact Nat.le_of_ble_eq_true rfl) only [go_sem, ↓mwp_block, simprocAttr])
  refine loop_intro (fun ρ h' => ρ 22 = .slice C s.O.length e ∧ ρ 23 = .int .i64 s.O.length ∧ ∃ i : Nat, ρ 24 = .int .i64 i ∧ i ≤ s.O.length ∧ (∀ m ∈ s.O.take i, m.kind < 1) ∧
    St h0 h' (ownA Msg.enc 6 107 (.slice C s.O.length e) s.O :: obxA o s.key s.O :: sagaA p D u s :: l)) (fun ρ _ => s.O.length - (iv (ρ 24)).toNat) ?_ ?_
  · (try simp (maxSteps := 1000000) (disch := first | omega | assumption | exact Nat.le_of_ble_eq_true rfl) only [go_sem, ↓mwp_block, simprocAttr])
    exact ⟨0, rfl, by omega, by simp, S⟩
  clear S e0 e10 e11 e12
  rintro ρ h J hJ ⟨e22, e23, i, e24, hi, hok2, S⟩
  (try simp (maxSteps := 1000000) (disch := first | omega | assumption | exact Nat.le_of_ble_eq_true rfl) only [go_sem, ↓mwp_block, simprocAttr, e23, e24])
  refine cond_dec (fun hlt => ?_) (fun hlt => ?_)
  · have hil : i < s.O.length := by omega
    obtain ⟨b1, o1, hA, q1⟩ := (S.arr enc_len).at hil
    have hmem := List.getElem_mem hil
    have hsn : s.O[i].kind < 1 → ∀ m ∈ s.O.take (i + 1), m.kind < 1 := fun hx m hm => by
      rw [List.take_succ_eq_append_getElem hil] at hm
      rcases List.mem_append.1 hm with hm | hm
      · exact hok2 m hm
      · rw [List.mem_singleton] at hm; rw [hm]; exact hx
    generalize s.O[i] = m at *
    (try simp (maxSteps := 1000000) (disch := first | omega | assumption | exact Nat.le_of_ble_eq_true rfl) only [go_sem, ↓mwp_block, simprocAttr, e22, e24, hA, q1])
    (refine st_alloc S ?_; clear S; intro q h S; (try simp only [splice_cons, splice_nil, List.set_cons_zero, List.set_cons_succ, Nat.zero_add, Nat.reduceAdd, List.cons_append, List.nil_append] at S); ((try clear F); have F := S.all; (try simp only [all_cons, all_nil, says_cell, and_true] at F)))
    (try simp (maxSteps := 1000000) (disch := first | omega | assumption | exact Nat.le_of_ble_eq_true rfl) only [go_sem, ↓mwp_block, simprocAttr, F, Msg.enc])
    (refine st_store (by first | exact S | exact S.p1 | exact S.p2 | exact S.p3 | exact S.p4 | exact S.p5 | exact S.p6 | exact S.p7 | exact S.p8 | exact S.p9 | exact S.p10 | exact S.p11) (by rfl) (by rfl) (Nat.le_of_ble_eq_true rfl) ?_; clear S; intro h S; (try simp only [splice_cons, splice_nil, List.set_cons_zero, List.set_cons_succ, Nat.zero_add, Nat.reduceAdd, List.cons_append, List.nil_append] at S); ((try clear F); have F := S.all; (try simp only [all_cons, all_nil, says_cell, and_true] at F)))
    by_cases k1 : 1 ≤ m.kind
    · (try simp (maxSteps := 1000000) (disch := first | omega | assumption | exact Nat.le_of_ble_eq_true rfl) only [go_sem, ↓mwp_block, simprocAttr, F])
      exact hK _ _ ⟨by rw [dcd_false fun h => by have := h.2 _ hmem; omega], S.tl.tl.tl⟩
    (try simp (maxSteps := 1000000) (disch := first | omega | assumption | exact Nat.le_of_ble_eq_true rfl) only [go_sem, ↓mwp_block, simprocAttr, F, e24])
    refine hJ _ _ ?_ ?_
    · (try simp (maxSteps := 1000000) (disch := first | omega | assumption | exact Nat.le_of_ble_eq_true rfl) only [go_sem, ↓mwp_block, simprocAttr, e22, e23])
      exact ⟨i + 1, rfl, by omega, hsn (by omega), S.tl⟩
    · (try simp (maxSteps := 1000000) (disch := first | omega | assumption | exact Nat.le_of_ble_eq_true rfl) only [go_sem, ↓mwp_block, simprocAttr, e24])
      omega
  obtain rfl : i = s.O.length := by omega
  rw [List.take_length] at hok2
  (try simp (maxSteps := 1000000) (disch := first | omega | assumption | exact Nat.le_of_ble_eq_true rfl) only [go_sem, ↓mwp_block, simprocAttr])
  exact hK _ _ ⟨by rw [dcd_true ⟨hok, hok2⟩], S.tl.tl⟩
end
end Go.Proofs.YtblalmgahfbalaaGreat.MX

/- Maps whose keys are whole numbers: made, looked up, put. -/
namespace Go.Proofs.YtblalmgahfbalaaGreat.MX
open Go Go.Proofs
set_option linter.unusedSimpArgs false
set_option linter.unusedVariables false
def lookE : List MapEntry → Int → Option Value
  | [], _ => none
  | e :: es, k => match e.key with
    | .int _ a => if a = k then some e.val else lookE es k
    | _ => lookE es k
def IntKeys (es : List MapEntry) : Prop := ∀ e ∈ es, ∃ a, e.key = .int .i64 a
/-- A map that has just what f says. -/
def mapA (b : Nat) (f : Int → Option Value) : HP where
  P h B := B = [b] ∧ ∃ es cl, h[b]? = some (.map es cl) ∧ IntKeys es.toList ∧ ∀ k, lookE es.toList k = f k
  loc := fun ⟨e, es, cl, hb, hr⟩ hk => ⟨e, es, cl, by subst e; rw [hk b (by simp)]; exact hb, hr⟩
  lt := fun ⟨e, es, cl, hb, _⟩ b' hm => by subst e; simp at hm; subst hm; exact (Array.getElem?_eq_some_iff.1 hb).1
theorem findNow_spec (k : Int) : ∀ (es : List MapEntry), IntKeys es → ∀ i, (Instr.findNow (.int .i64) (.int .i64 k) es i = some none ∧ lookE es k = none) ∨
    ∃ j e, es[j]? = some e ∧ Instr.findNow (.int .i64) (.int .i64 k) es i = some (some (i + j, e.val)) ∧ lookE es k = some e.val ∧ e.key = .int .i64 k ∧
      ∀ w q, lookE (es.modify j fun e => { e with key := .int .i64 k, val := w }) q = if q = k then some w else lookE es q
  | [], _, i => .inl ⟨rfl, rfl⟩
  | e :: es, h, i => by
    obtain ⟨a, ha⟩ := h e (by simp)
    by_cases hk : a = k
    · subst hk
      refine .inr ⟨0, e, rfl, ?_, ?_, ha, fun w q => ?_⟩
      · simp [Instr.findNow, ha, Instr.sameNow]
      · simp [lookE, ha]
      · simp only [List.modify_zero_cons, lookE, ha]
        by_cases hq : a = q
        · subst hq; simp
        · rw [if_neg hq, if_neg (fun h => hq h.symm), if_neg hq]
    · have hne : (k == a) = false := by simp; exact fun h => hk h.symm
      have hf : ∀ i, Instr.findNow (.int .i64) (.int .i64 k) (e :: es) i = Instr.findNow (.int .i64) (.int .i64 k) es (i + 1) := fun i => by
        simp [Instr.findNow, ha, Instr.sameNow, hne]
      rcases findNow_spec k es (fun x hx => h x (by simp [hx])) (i + 1) with ⟨h1, h2⟩ | ⟨j, x, h1, h2, h3, h4, h5⟩
      · exact .inl ⟨by rw [hf]; exact h1, by simp only [lookE, ha, if_neg hk]; exact h2⟩
      · refine .inr ⟨j + 1, x, by simpa using h1, by rw [hf, h2]; congr 2; simp; omega, by simp only [lookE, ha, if_neg hk]; exact h3, h4, fun w q => ?_⟩
        simp only [List.modify_succ_cons, lookE, ha, h5]
        by_cases hq : a = q
        · subst hq; simp [hk]
        · simp [hq]
theorem check_int {P : Program} {kt : TypeId} (hk : P.underlying kt = some (.int .i64)) (b : Bool) (n : Nat) (k : Int) (w : World) : (Instr.checkKey b (n + 1) kt (.int .i64 k)).run P w = .ok () w := by
  simp only [Instr.checkKey, Sem.run_bind, und_run hk, Result.andThen_ok, Sem.run_pure]
theorem find_run {P : Program} {kt : TypeId} (hk : P.underlying kt = some (.int .i64)) {k : Int} {es : List MapEntry} {r : Option (Nat × Value)} (hr : Instr.findNow (.int .i64) (.int .i64 k) es 0 = some r) (w : World) : (Instr.findKey kt (.int .i64 k) es).run P w = .ok r w := by
  simp only [Instr.findKey, Sem.run_bind, und_run hk, Result.andThen_ok, hr, Sem.run_pure]
theorem zero_run {P : Program} {t : TypeId} {z : Value} (h : (P.info? t).bind (·.zero) = some z) (w : World) : (zeroValue t).run P w = .ok z w := by
  cases hi : P.info? t with
  | none => simp [hi] at h
  | some i =>
    have hv : i.zero = some z := by simpa [hi] using h
    simp [zeroValue, typeInfo, hi, hv]
def opVal (ρ : Env) : Operand → Value
  | .tmp t => ρ t
  | .const v => v
  | .global g => .pointer (some ⟨g, 0, none⟩)
  | .func f => .func (.func f) #[] #[]
theorem getMap_run {P : Program} {w : World} {r : Nat} {es : Array MapEntry} {cl : Nat} (h : w.heap[r]? = some (.map es cl)) : (getObj r).run P w = .ok (.map es cl) w := by simp [getObj, Sem.run, h]
theorem setMap_run {P : Program} {w : World} {r : Nat} {es : Array MapEntry} {cl : Nat} (o' : Obj) (h : w.heap[r]? = some (.map es cl)) : (setObj r o').run P w = .ok () { w with heap := w.heap.setIfInBounds r o' } := by
  simp [setObj, Sem.run, h]
section
variable {P : Program} {o : Oper} {ρ : Env} {h0 h : Heap} {l : List HP} {K : Value → Heap → Prop} {s1 : Tag ρ} {s2 : Tag h} {s3 : Tag K}
theorem any_mkmap {t : TypeId} (ho : o.op = .makeMap t none) (S : St h0 h l) (hk : ∀ b h', St h0 h' (mapA b (fun _ => none) :: l) → K (.map (some b)) h') : anyT P o ρ h K s1 s2 s3 := by
  intro w a hw _
  refine ⟨.map (some w.heap.size), { w with heap := w.heap.push (.map #[] 0) }, .inl ?_, ⟨rfl, rfl, rfl⟩, ?_⟩
  · simp [execOp, ho, Instr.makeMap]
  · subst hw
    refine hk _ _ (S.new ((Fr.refl _ _).push _) (C := [w.heap.size]) ⟨rfl, #[], 0, by simp, fun e he => by simp at he, fun k => rfl⟩ (by simp))
theorem any_look {t kt et : TypeId} {m n b : Nat} {k : Int} {f : Int → Option Value} {z : Value} (ho : o.op = .lookup t (.tmp m) (.tmp n) false) (ht : P.underlying t = some (.map kt et)) (hkt : P.underlying kt = some (.int .i64)) (hz : ∀ w, (zeroValue et).run P w = .ok z w)
    (hm : ρ m = .map (some b)) (hn : ρ n = .int .i64 k) (S : St h0 h (mapA b f :: l)) (hk : K ((f k).getD z) h) : anyT P o ρ h K s1 s2 s3 := by
  intro w a hw hops
  have hx : a.eval (.tmp m) = .map (some b) := by
    rw [← hm]
    exact hops (.tmp m) (by rw [ho]; simp [Op.operands])
  have hy : a.eval (.tmp n) = .int .i64 k := by
    rw [← hn]
    exact hops (.tmp n) (by rw [ho]; simp [Op.operands])
  obtain ⟨B, ⟨_, es, cl, hb, hi, hl⟩, _⟩ := S.hd
  rw [← hw] at hb
  have hc : (Instr.checkKey es.isEmpty 10000 kt (.int .i64 k)).run P w = .ok () w := check_int hkt _ 9999 k w
  refine ⟨(f k).getD z, w, .inl ?_, ⟨rfl, rfl, rfl⟩, by rw [hw]; exact hk⟩
  rcases findNow_spec k es.toList hi 0 with ⟨h1, h2⟩ | ⟨j, e, _, h1, h2, _, _⟩
  · rw [hl] at h2
    simp [execOp, ho, Instr.lookup, und_run ht, hx, hy, getMap_run hb, hc, find_run hkt h1, hz, h2]
  · rw [hl] at h2
    simp [execOp, ho, Instr.lookup, und_run ht, hx, hy, getMap_run hb, hc, find_run hkt h1, h2]
theorem any_put {t kt et : TypeId} {m n b : Nat} {k : Int} {f : Int → Option Value} {v : Value} {x : Operand} (ho : o.op = .mapUpdate t (.tmp m) (.tmp n) x) (ht : P.underlying t = some (.map kt et)) (hkt : P.underlying kt = some (.int .i64))
    (hm : ρ m = .map (some b)) (hn : ρ n = .int .i64 k) (hv : opVal ρ x = v)
    (S : St h0 h (mapA b f :: l)) (hk : ∀ h', St h0 h' (mapA b (fun q => if q = k then some v else f q) :: l) → K undef h') : anyT P o ρ h K s1 s2 s3 := by
  intro w a hw hops
  have hx : a.eval (.tmp m) = .map (some b) := by
    rw [← hm]
    exact hops (.tmp m) (by rw [ho]; simp [Op.operands])
  have hy : a.eval (.tmp n) = .int .i64 k := by
    rw [← hn]
    exact hops (.tmp n) (by rw [ho]; simp [Op.operands])
  have hz : a.eval x = v := by
    have hh := hops x (by rw [ho]; simp [Op.operands])
    rw [← hv, hh]
    cases x <;> rfl
  obtain ⟨B, ⟨hB, es, cl, hb, hi, hl⟩, _, hup⟩ := S.hd
  rw [← hw] at hb
  have hlt : b < w.heap.size := (Array.getElem?_eq_some_iff.1 hb).1
  have hc : (Instr.checkKey false 10000 kt (.int .i64 k)).run P w = .ok () w := check_int hkt _ 9999 k w
  have hgo : ∀ o', (∃ es cl, o' = Obj.map es cl ∧ IntKeys es.toList ∧ ∀ q, lookE es.toList q = if q = k then some v else f q) → K undef (w.heap.setIfInBounds b o') := fun o' ⟨es', cl', ho', hi', hl'⟩ => by
    refine hk _ (hup _ (mapA b _) [b] ?_ ⟨rfl, es', cl', ?_, hi', hl'⟩ (fun b' hm => .inl (by rw [hB]; exact hm)))
    · subst hw hB
      exact (Fr.refl _ _).set (.inl (by simp)) _
    · rw [ho']
      simp [hlt]
  rcases findNow_spec k es.toList hi 0 with ⟨h1, h2⟩ | ⟨j, e, he, h1, h2, h3, h4⟩
  · refine ⟨undef, { w with heap := w.heap.setIfInBounds b (.map (es.push { key := .int .i64 k, val := v, born := cl }) (cl + 1)) }, .inr ⟨?_, rfl⟩, ⟨rfl, rfl, rfl⟩, hgo _ ⟨_, _, rfl, ?_, ?_⟩⟩
    · simp [execOp, ho, Instr.mapUpdate, und_run ht, hx, hy, hz, getMap_run hb, hc, find_run hkt h1, setMap_run _ hb]
    · intro y hy'
      rw [Array.toList_push] at hy'
      rcases List.mem_append.1 hy' with hy' | hy'
      · exact hi y hy'
      · simp at hy'; exact ⟨k, by rw [hy']⟩
    · intro q
      have happ : ∀ (L : List MapEntry), IntKeys L → lookE L k = none → lookE (L ++ [{ key := .int .i64 k, val := v, born := cl }]) q = if q = k then some v else lookE L q := by
        intro L
        induction L with
        | nil =>
          intro _ _
          simp only [List.nil_append, lookE]
          by_cases hq : k = q
          · subst hq; simp
          · rw [if_neg hq, if_neg (fun h => hq h.symm)]
        | cons y L ih =>
          intro hL hn
          obtain ⟨aa, ha⟩ := hL y (by simp)
          simp only [List.cons_append, lookE, ha] at hn ⊢
          by_cases hq : aa = k
          · rw [if_pos hq] at hn; cases hn
          · rw [if_neg hq] at hn
            rw [ih (fun e he => hL e (by simp [he])) hn]
            by_cases hq2 : aa = q
            · subst hq2; simp [hq]
            · simp [hq2]
      rw [Array.toList_push, happ _ hi h2, hl]
  · have hget : es[j]? = some e := by rw [← he, Array.getElem?_toList]
    refine ⟨undef, { w with heap := w.heap.setIfInBounds b (.map (es.modify j fun e => { e with key := .int .i64 k, val := v }) cl) }, .inr ⟨?_, rfl⟩, ⟨rfl, rfl, rfl⟩, hgo _ ⟨_, _, rfl, ?_, ?_⟩⟩
    · simp [execOp, ho, Instr.mapUpdate, und_run ht, hx, hy, hz, getMap_run hb, hc, find_run hkt h1, setMap_run _ hb, hget, h3, Instr.keyThatStays, Instr.sameBits]
    · intro y hy'
      rw [Array.toList_modify] at hy'
      obtain ⟨i, hil, rfl⟩ := List.getElem_of_mem hy'
      rw [List.getElem_modify]
      split
      · exact ⟨k, rfl⟩
      · exact hi _ (List.getElem_mem _)
    · intro q
      rw [Array.toList_modify, h4, hl]
end
end Go.Proofs.YtblalmgahfbalaaGreat.MX
