/- Texts in one file: Au4. -/
import Derived.Test.YtblalmgahfbalaaGreatK29
import Derived.Test.YtblalmgahfbalaaGreatK30

/- The audit: places. -/
namespace Go.Proofs.YtblalmgahfbalaaGreat.MX
open Go Go.Proofs
set_option linter.unusedSimpArgs false
set_option linter.unusedVariables false
set_option maxHeartbeats 16000000
def thereV (st g pl : Int) : Prop := if st = 1 ∨ st = 2 then pl = 0 else if st = 3 then pl = 1 else if st = 4 then (if g < 0 then pl = 2 else pl ≠ 1 ∧ pl ≠ 2) else True
theorem there_ok (st g pl : Int) (h : Heap) : CallsH Tryz.prog 40 [.int .i64 st, .int .i64 g, .int .i64 pl] h fun v h' => v = .bool (dcd (thereV st g pl)) ∧ h' = h := by
  have hdef : thereV st g pl = if st = 1 ∨ st = 2 then pl = 0 else if st = 3 then pl = 1 else if st = 4 then (if g < 0 then pl = 2 else pl ≠ 1 ∧ pl ≠ 2) else True := rfl
  by_cases s1 : st = 1
  · rw [if_pos (.inl s1)] at hdef
    rw [hdef]
    (refine enterK c_audit_there (Nat.le_of_ble_eq_true rfl) fun K hK => ?_; (try simp (maxSteps := 1000000) (disch := first | omega | assumption | exact Nat.le_of_ble_eq_true rfl) only [go_sem, ↓mwp_block, simprocAttr, ir_audit_there]))
    (try simp (maxSteps := 1000000) (disch := first | omega | assumption | exact Nat.le_of_ble_eq_true rfl) only [go_sem, ↓mwp_block, simprocAttr, s1])
    exact hK _ _ ⟨rfl, rfl⟩
  by_cases s2 : st = 2
  · rw [if_pos (.inr s2)] at hdef
    rw [hdef]
    (refine enterK c_audit_there (Nat.le_of_ble_eq_true rfl) fun K hK => ?_; (try simp (maxSteps := 1000000) (disch := first | omega | assumption | exact Nat.le_of_ble_eq_true rfl) only [go_sem, ↓mwp_block, simprocAttr, ir_audit_there]))
    (try simp (maxSteps := 1000000) (disch := first | omega | assumption | exact Nat.le_of_ble_eq_true rfl) only [go_sem, ↓mwp_block, simprocAttr, s1, s2])
    exact hK _ _ ⟨rfl, rfl⟩
  rw [if_neg (fun h => h.elim s1 s2)] at hdef
  by_cases s3 : st = 3
  · rw [if_pos s3] at hdef
    rw [hdef]
    (refine enterK c_audit_there (Nat.le_of_ble_eq_true rfl) fun K hK => ?_; (try simp (maxSteps := 1000000) (disch := first | omega | assumption | exact Nat.le_of_ble_eq_true rfl) only [go_sem, ↓mwp_block, simprocAttr, ir_audit_there]))
    (try simp (maxSteps := 1000000) (disch := first | omega | assumption | exact Nat.le_of_ble_eq_true rfl) only [go_sem, ↓mwp_block, simprocAttr, s1, s2, s3])
    exact hK _ _ ⟨rfl, rfl⟩
  rw [if_neg s3] at hdef
  by_cases s4 : st = 4
  · rw [if_pos s4] at hdef
    by_cases g0 : g < 0
    · rw [if_pos g0] at hdef
      rw [hdef]
      (refine enterK c_audit_there (Nat.le_of_ble_eq_true rfl) fun K hK => ?_; (try simp (maxSteps := 1000000) (disch := first | omega | assumption | exact Nat.le_of_ble_eq_true rfl) only [go_sem, ↓mwp_block, simprocAttr, ir_audit_there]))
      (try simp (maxSteps := 1000000) (disch := first | omega | assumption | exact Nat.le_of_ble_eq_true rfl) only [go_sem, ↓mwp_block, simprocAttr, s1, s2, s3, s4, g0])
      exact hK _ _ ⟨rfl, rfl⟩
    rw [if_neg g0] at hdef
    rw [hdef]
    by_cases p1 : pl = 1
    · (refine enterK c_audit_there (Nat.le_of_ble_eq_true rfl) fun K hK => ?_; (try simp (maxSteps := 1000000) (disch := first | omega | assumption | exact Nat.le_of_ble_eq_true rfl) only [go_sem, ↓mwp_block, simprocAttr, ir_audit_there]))
      (try simp (maxSteps := 1000000) (disch := first | omega | assumption | exact Nat.le_of_ble_eq_true rfl) only [go_sem, ↓mwp_block, simprocAttr, s1, s2, s3, s4, g0, p1])
      exact hK _ _ ⟨by rw [dcd_false fun h => h.1 p1], rfl⟩
    by_cases p2 : pl = 2
    · (refine enterK c_audit_there (Nat.le_of_ble_eq_true rfl) fun K hK => ?_; (try simp (maxSteps := 1000000) (disch := first | omega | assumption | exact Nat.le_of_ble_eq_true rfl) only [go_sem, ↓mwp_block, simprocAttr, ir_audit_there]))
      (try simp (maxSteps := 1000000) (disch := first | omega | assumption | exact Nat.le_of_ble_eq_true rfl) only [go_sem, ↓mwp_block, simprocAttr, s1, s2, s3, s4, g0, p1, p2])
      exact hK _ _ ⟨by rw [dcd_false fun h => h.2 p2], rfl⟩
    (refine enterK c_audit_there (Nat.le_of_ble_eq_true rfl) fun K hK => ?_; (try simp (maxSteps := 1000000) (disch := first | omega | assumption | exact Nat.le_of_ble_eq_true rfl) only [go_sem, ↓mwp_block, simprocAttr, ir_audit_there]))
    (try simp (maxSteps := 1000000) (disch := first | omega | assumption | exact Nat.le_of_ble_eq_true rfl) only [go_sem, ↓mwp_block, simprocAttr, s1, s2, s3, s4, g0, p1, p2])
    exact hK _ _ ⟨by rw [dcd_true ⟨p1, p2⟩], rfl⟩
  rw [if_neg s4] at hdef
  rw [hdef]
  (refine enterK c_audit_there (Nat.le_of_ble_eq_true rfl) fun K hK => ?_; (try simp (maxSteps := 1000000) (disch := first | omega | assumption | exact Nat.le_of_ble_eq_true rfl) only [go_sem, ↓mwp_block, simprocAttr, ir_audit_there]))
  (try simp (maxSteps := 1000000) (disch := first | omega | assumption | exact Nat.le_of_ble_eq_true rfl) only [go_sem, ↓mwp_block, simprocAttr, s1, s2, s3, s4])
  exact hK _ _ ⟨by rw [dcd_true trivial], rfl⟩
def u1OK (K : List KU) (i : Nat) (u : Unt) : Prop := 0 ≤ u.ord → 3 ≤ placeK K i → placeK K i ≤ 5 → (seenK K i).1 = true ∧ (seenK K i).2 = true
/-- The units that returns hold which aren't done. -/
noncomputable def heldL (R : List Ret) : List Int := (R.filter fun r => !dcd (doneR r)).flatMap Ret.us
noncomputable def placesOK (U : List Unt) (s : Sag) : Prop := (∀ (i : Nat) (u : Unt), U[i]? = some u → u1OK s.K i u) ∧ (heldL s.R).Nodup ∧ ∀ r ∈ s.R, ¬ doneR r → ∀ j, j < r.us.length → thereV r.state (r.gs.getD j 0) (placeK s.K (r.us.getD j 0))
noncomputable def heldF (L : List Int) : Int → Option Value := fun k => if dcd (k ∈ L) = true then some (.bool true) else none
theorem heldF_snoc (L : List Int) (k : Int) : (fun q => if q = k then some (.bool true) else heldF L q) = heldF (L ++ [k]) := by
  funext q
  unfold heldF
  by_cases e : q = k
  · rw [if_pos e, if_pos (dcd_true (by simp [e]))]
  · rw [if_neg e]
    by_cases hq : q ∈ L
    · rw [if_pos (dcd_true hq), if_pos (dcd_true (by simp [hq]))]
    · rw [if_neg (by rw [dcd_false hq]; decide), if_neg (by rw [dcd_false (by simp [hq, e])]; decide)]
theorem heldL_snoc {R : List Ret} {i : Nat} (hi : i < R.length) : heldL (R.take (i + 1)) = heldL (R.take i) ++ if dcd (doneR R[i]) = true then [] else R[i].us := by
  unfold heldL
  rw [List.take_succ_eq_append_getElem hi, List.filter_append, List.flatMap_append]
  congr 1
  cases hd : dcd (doneR R[i]) <;> simp [hd]
theorem heldL_le {R : List Ret} (i : Nat) : ∃ M, heldL R = heldL (R.take i) ++ M := by
  refine ⟨heldL (R.drop i), ?_⟩
  unfold heldL
  conv => lhs; rw [← List.take_append_drop i R]
  rw [List.filter_append, List.flatMap_append]
section
variable {h0 h : Heap} {l : List HP} {p : Nat} {D : Cfg} {s : Sag} {U : List Unt} {A : Option Addr} {c : Nat}
theorem APlaces_ok (W : Aud D U s) (S : St h0 h (sagaA p D (.slice A U.length c) s :: stcA D (.slice A U.length c) U :: l)) :
    CallsH Tryz.prog 14 [.pointer (some ⟨p, 0, none⟩)] h fun v h' => v = .bool (dcd (placesOK U s)) ∧ St h0 h' (sagaA p D (.slice A U.length c) s :: stcA D (.slice A U.length c) U :: l) := by
  have hrl := W.rl
  have hkl := W.kl
  have hul := W.ul
  (refine enterK c_audit_Places (Nat.le_of_ble_eq_true rfl) fun K hK => ?_; (try simp (maxSteps := 1000000) (disch := first | omega | assumption | exact Nat.le_of_ble_eq_true rfl) only [go_sem, ↓mwp_block, simprocAttr, ir_audit_Places]))
  refine call_intro (StockS_ok S (by omega)) ?_
  clear S
  rintro _ h ⟨k, rfl, S⟩
  (try simp (maxSteps := 1000000) (disch := first | omega | assumption | exact Nat.le_of_ble_eq_true rfl) only [go_sem, ↓mwp_block, simprocAttr])
  refine call_intro (Units_ok S.p1 (fun h' S => (stcA_arr (D := D) (U := U) (A := A) (c := c) S (by simp)).2) (by omega)) ?_
  clear S
  intro v h S
  obtain ⟨A', c', rfl⟩ := S.sl
  (try simp (maxSteps := 1000000) (disch := first | omega | assumption | exact Nat.le_of_ble_eq_true rfl) only [go_sem, ↓mwp_block, simprocAttr])
  refine loop_intro (fun ρ h' => ρ 0 = .pointer (some ⟨p, 0, none⟩) ∧ ρ 3 = .pointer (some ⟨k, 0, none⟩) ∧ ρ 19 = .slice A' U.length c' ∧ ρ 20 = .int .i64 U.length ∧ ∃ i : Nat, ρ 21 = .int .i64 i ∧ i ≤ U.length ∧ (∀ (j : Nat) (u : Unt), j < i → U[j]? = some u → u1OK s.K j u) ∧
    St h0 h' (ownA Unt.enc 4 76 (.slice A' U.length c') U :: stockA k s.K :: sagaA p D (.slice A U.length c) s :: stcA D (.slice A U.length c) U :: l)) (fun ρ _ => U.length - (iv (ρ 21)).toNat) ?_ ?_
  · (try simp (maxSteps := 1000000) (disch := first | omega | assumption | exact Nat.le_of_ble_eq_true rfl) only [go_sem, ↓mwp_block, simprocAttr])
    exact ⟨0, rfl, by omega, fun j u hj => absurd hj (by omega), by (refine St.perm S ?_; repeat (with_reducible first | exact List.Perm.refl _ | refine pm0 ?_ | refine pm1 ?_ | refine pm2 ?_ | refine pm3 ?_ | refine pm4 ?_ | refine pm5 ?_ | refine pm6 ?_ | refine pm7 ?_ | refine pm8 ?_ | refine pm9 ?_ | refine pm10 ?_ | refine pm11 ?_ | refine pm12 ?_)) ⟩
  clear S
  rintro ρ h J hJ ⟨e0, e3, e19, e20, i, e21, hi, hok, S⟩
  (try simp (maxSteps := 1000000) (disch := first | omega | assumption | exact Nat.le_of_ble_eq_true rfl) only [go_sem, ↓mwp_block, simprocAttr, e20, e21])
  refine cond_dec (fun hlt => ?_) (fun hlt => ?_)
  · have hil : i < U.length := by omega
    obtain ⟨b1, o1, hA, q1⟩ := (S.arr Unt.enc_len).at hil
    have hat : U[i]? = some U[i] := List.getElem?_eq_getElem hil
    have hbad : ¬ u1OK s.K i U[i] → ¬ placesOK U s := fun hn h => hn (h.1 i _ hat)
    have hsn : u1OK s.K i U[i] → ∀ (j : Nat) (u : Unt), j < i + 1 → U[j]? = some u → u1OK s.K j u := fun hx j u hj hr => by
      by_cases e : j = i
      · rw [e] at hr ⊢
        rw [hat] at hr
        cases hr
        exact hx
      · exact hok j u (by omega) hr
    generalize U[i] = x at *
    (try simp (maxSteps := 1000000) (disch := first | omega | assumption | exact Nat.le_of_ble_eq_true rfl) only [go_sem, ↓mwp_block, simprocAttr, e19, e21, hA, q1])
    (refine st_alloc S ?_; clear S; intro q h S; (try simp only [splice_cons, splice_nil, List.set_cons_zero, List.set_cons_succ, Nat.zero_add, Nat.reduceAdd, List.cons_append, List.nil_append] at S); ((try clear F); have F := S.all; (try simp only [all_cons, all_nil, says_cell, and_true] at F)))
    (try simp (maxSteps := 1000000) (disch := first | omega | assumption | exact Nat.le_of_ble_eq_true rfl) only [go_sem, ↓mwp_block, simprocAttr, F, Unt.enc])
    (refine st_store (by first | exact S | exact S.p1 | exact S.p2 | exact S.p3 | exact S.p4 | exact S.p5 | exact S.p6 | exact S.p7 | exact S.p8 | exact S.p9 | exact S.p10 | exact S.p11) (by rfl) (by rfl) (Nat.le_of_ble_eq_true rfl) ?_; clear S; intro h S; (try simp only [splice_cons, splice_nil, List.set_cons_zero, List.set_cons_succ, Nat.zero_add, Nat.reduceAdd, List.cons_append, List.nil_append] at S); ((try clear F); have F := S.all; (try simp only [all_cons, all_nil, says_cell, and_true] at F)))
    (try simp (maxSteps := 1000000) (disch := first | omega | assumption | exact Nat.le_of_ble_eq_true rfl) only [go_sem, ↓mwp_block, simprocAttr, e3])
    refine call_intro (SeenK_ok (i : Int) S.p2) ?_
    rintro _ _ ⟨rfl, rfl⟩
    (try simp (maxSteps := 1000000) (disch := first | omega | assumption | exact Nat.le_of_ble_eq_true rfl) only [go_sem, ↓mwp_block, simprocAttr, e3])
    refine call_intro (PlaceK_ok (i : Int) S.p2) ?_
    rintro _ _ ⟨rfl, rfl⟩
    have hrow : u1OK s.K i x ↔ (0 ≤ x.ord → 3 ≤ placeK s.K i → placeK s.K i ≤ 5 → (seenK s.K i).1 = true ∧ (seenK s.K i).2 = true) := Iff.rfl
    generalize hpl : placeK s.K (i : Int) = pl at *
    rcases hs : seenK s.K (i : Int) with ⟨r1, g1⟩
    rw [hs] at hrow
    by_cases k1 : 0 ≤ x.ord
    case neg =>
      (try simp (maxSteps := 1000000) (disch := first | omega | assumption | exact Nat.le_of_ble_eq_true rfl) only [go_sem, ↓mwp_block, simprocAttr, F, e21])
      refine hJ _ _ ?_ ?_
      · (try simp (maxSteps := 1000000) (disch := first | omega | assumption | exact Nat.le_of_ble_eq_true rfl) only [go_sem, ↓mwp_block, simprocAttr, e0, e3, e19, e20])
        exact ⟨i + 1, rfl, by omega, hsn (hrow.2 fun h => absurd h k1), S.tl⟩
      · (try simp (maxSteps := 1000000) (disch := first | omega | assumption | exact Nat.le_of_ble_eq_true rfl) only [go_sem, ↓mwp_block, simprocAttr, e21])
        omega
    by_cases k2 : 3 ≤ pl
    case neg =>
      (try simp (maxSteps := 1000000) (disch := first | omega | assumption | exact Nat.le_of_ble_eq_true rfl) only [go_sem, ↓mwp_block, simprocAttr, F, e21])
      refine hJ _ _ ?_ ?_
      · (try simp (maxSteps := 1000000) (disch := first | omega | assumption | exact Nat.le_of_ble_eq_true rfl) only [go_sem, ↓mwp_block, simprocAttr, e0, e3, e19, e20])
        exact ⟨i + 1, rfl, by omega, hsn (hrow.2 fun _ h => absurd h k2), S.tl⟩
      · (try simp (maxSteps := 1000000) (disch := first | omega | assumption | exact Nat.le_of_ble_eq_true rfl) only [go_sem, ↓mwp_block, simprocAttr, e21])
        omega
    by_cases k3 : pl ≤ 5
    case neg =>
      (try simp (maxSteps := 1000000) (disch := first | omega | assumption | exact Nat.le_of_ble_eq_true rfl) only [go_sem, ↓mwp_block, simprocAttr, F, e21])
      refine hJ _ _ ?_ ?_
      · (try simp (maxSteps := 1000000) (disch := first | omega | assumption | exact Nat.le_of_ble_eq_true rfl) only [go_sem, ↓mwp_block, simprocAttr, e0, e3, e19, e20])
        exact ⟨i + 1, rfl, by omega, hsn (hrow.2 fun _ _ h => absurd h k3), S.tl⟩
      · (try simp (maxSteps := 1000000) (disch := first | omega | assumption | exact Nat.le_of_ble_eq_true rfl) only [go_sem, ↓mwp_block, simprocAttr, e21])
        omega
    cases r1
    · (try simp (maxSteps := 1000000) (disch := first | omega | assumption | exact Nat.le_of_ble_eq_true rfl) only [go_sem, ↓mwp_block, simprocAttr, F])
      exact hK _ _ ⟨by rw [dcd_false (hbad fun h => by have := (hrow.1 h k1 k2 k3).1; cases this)], S.tl.tl.tl⟩
    cases g1
    · (try simp (maxSteps := 1000000) (disch := first | omega | assumption | exact Nat.le_of_ble_eq_true rfl) only [go_sem, ↓mwp_block, simprocAttr, F])
      exact hK _ _ ⟨by rw [dcd_false (hbad fun h => by have := (hrow.1 h k1 k2 k3).2; cases this)], S.tl.tl.tl⟩
    (try simp (maxSteps := 1000000) (disch := first | omega | assumption | exact Nat.le_of_ble_eq_true rfl) only [go_sem, ↓mwp_block, simprocAttr, F, e21])
    refine hJ _ _ ?_ ?_
    · (try simp (maxSteps := 1000000) (disch := first | omega | assumption | exact Nat.le_of_ble_eq_true rfl) only [go_sem, ↓mwp_block, simprocAttr, e0, e3, e19, e20])
      exact ⟨i + 1, rfl, by omega, hsn (hrow.2 fun _ _ _ => ⟨rfl, rfl⟩), S.tl⟩
    · (try simp (maxSteps := 1000000) (disch := first | omega | assumption | exact Nat.le_of_ble_eq_true rfl) only [go_sem, ↓mwp_block, simprocAttr, e21])
      omega
  obtain rfl : i = U.length := by omega
  have hfin : ∀ (j : Nat) (u : Unt), U[j]? = some u → u1OK s.K j u := fun j u hr => hok j u (by
    by_cases hj : j < U.length
    · exact hj
    · rw [List.getElem?_eq_none (by omega)] at hr; cases hr) hr
  have S := S.tl
  clear hJ hok e19 e20 e21
  (try simp (maxSteps := 1000000) (disch := first | omega | assumption | exact Nat.le_of_ble_eq_true rfl) only [go_sem, ↓mwp_block, simprocAttr])
  refine any_mkmap rfl S ?_
  clear S
  intro m h S
  rw [show (fun _ => none : Int → Option Value) = heldF (heldL (s.R.take 0)) from by funext q; simp [heldF, heldL, dcd_False]] at S
  (try simp (maxSteps := 1000000) (disch := first | omega | assumption | exact Nat.le_of_ble_eq_true rfl) only [go_sem, ↓mwp_block, simprocAttr, e0])
  refine call_intro (RMAs_ok S.p2 (by omega) W.len) ?_
  clear S
  intro v h S
  obtain ⟨vs, hvs, S⟩ := St.rmas.1 S
  have hvl : vs.length ≤ 100 := by rw [← List.length_map (f := RetV.r), hvs]; omega
  obtain ⟨B, d, rfl⟩ := S.sl
  (try simp (maxSteps := 1000000) (disch := first | omega | assumption | exact Nat.le_of_ble_eq_true rfl) only [go_sem, ↓mwp_block, simprocAttr])
  refine loop_intro (fun ρ h' => ρ 3 = .pointer (some ⟨k, 0, none⟩) ∧ ρ 9 = .map (some m) ∧ ρ 56 = .slice B vs.length d ∧ ρ 57 = .int .i64 vs.length ∧ ∃ i : Nat, ρ 58 = .int .i64 i ∧ i ≤ vs.length ∧ (heldL (s.R.take i)).Nodup ∧ (∀ r ∈ (vs.take i).map RetV.r, ¬ doneR r → ∀ j, j < r.us.length → thereV r.state (r.gs.getD j 0) (placeK s.K (r.us.getD j 0))) ∧
    St h0 h' (mapA m (heldF (heldL (s.R.take i))) :: ownA RetV.enc 14 35 (.slice B vs.length d) vs :: (vs.map retRow ++ (sagaA p D (.slice A U.length c) s :: stockA k s.K :: stcA D (.slice A U.length c) U :: l)))) (fun ρ _ => vs.length - (iv (ρ 58)).toNat) ?_ ?_
  · (try simp (maxSteps := 1000000) (disch := first | omega | assumption | exact Nat.le_of_ble_eq_true rfl) only [go_sem, ↓mwp_block, simprocAttr, e3])
    refine ⟨0, rfl, by omega, by simp [heldL], by simp, ?_⟩
    exact S.perm ((List.Perm.cons _ ((List.Perm.append_left _ (List.Perm.swap _ _ _)).trans List.perm_middle)).trans (List.Perm.swap _ _ _))
  clear S e0 e3
  rintro ρ h J hJ ⟨e3, e9, e56, e57, i, e58, hi, hnd, hok, S⟩
  (try simp (maxSteps := 1000000) (disch := first | omega | assumption | exact Nat.le_of_ble_eq_true rfl) only [go_sem, ↓mwp_block, simprocAttr, e57, e58])
  refine cond_dec (fun hlt => ?_) (fun hlt => ?_)
  · have hil : i < vs.length := by omega
    have hmem := List.getElem_mem hil
    obtain ⟨b1, o1, hA, q1⟩ := (S.p1.arr RetV.enc_len).at hil
    have hin : ∀ {h' : Heap} {L : List HP}, St h0 h' L → (∀ x ∈ vs.map retRow, x ∈ L) → Arr zEnc 1 h' vs[i].A vs[i].r.us ∧ Arr zEnc 1 h' vs[i].B vs[i].r.gs := fun S hL => retRow_in S (hL _ (List.mem_map_of_mem hmem))
    have hmr : vs[i].r ∈ s.R := by rw [← hvs]; exact List.mem_map_of_mem hmem
    obtain ⟨hright, hltU⟩ := W.rr _ hmr
    have hsn := rows_snoc (P := fun r => ¬ doneR r → ∀ j, j < r.us.length → thereV r.state (r.gs.getD j 0) (placeK s.K (r.us.getD j 0))) hil hok
    have hiR : i < s.R.length := by rw [← hvs, List.length_map]; exact hil
    have hRi : s.R[i] = vs[i].r := by simp only [← hvs, List.getElem_map]
    have hheld := heldL_snoc hiR
    obtain ⟨Mr, hMr⟩ := heldL_le (R := s.R) (i + 1)
    rw [hRi] at hheld
    generalize vs[i] = x at *
    obtain ⟨hn1, hn2, hall⟩ := hright.2.2.2.2.2.2.2.1
    have hn1' := hn1.2
    (try simp (maxSteps := 1000000) (disch := first | omega | assumption | exact Nat.le_of_ble_eq_true rfl) only [go_sem, ↓mwp_block, simprocAttr, e56, e58, hA, q1])
    (refine st_alloc S ?_; clear S; intro q h S; (try simp only [splice_cons, splice_nil, List.set_cons_zero, List.set_cons_succ, Nat.zero_add, Nat.reduceAdd, List.cons_append, List.nil_append] at S); ((try clear F); have F := S.all; (try simp only [all_cons, all_nil, says_cell, and_true] at F)))
    (try simp (maxSteps := 1000000) (disch := first | omega | assumption | exact Nat.le_of_ble_eq_true rfl) only [go_sem, ↓mwp_block, simprocAttr, F, RetV.enc])
    refine st_store S rfl rfl (Nat.le_of_ble_eq_true rfl) ?_
    clear S F q1
    intro h S
    (try simp only [splice_cons, splice_nil, List.set_cons_zero, List.set_cons_succ, Nat.zero_add, Nat.reduceAdd, List.cons_append, List.nil_append] at S)
    have S : St h0 h (cellA q x.enc 35 :: _) := S
    ((try clear F); have F := S.all; (try simp only [all_cons, all_nil, says_cell, and_true] at F))
    (try simp (maxSteps := 1000000) (disch := first | omega | assumption | exact Nat.le_of_ble_eq_true rfl) only [go_sem, ↓mwp_block, simprocAttr, F, RetV.enc])
    refine call_intro (RDone_ok x _) ?_
    rintro _ h ⟨rfl, f1⟩
    have S := S.frame f1
    clear f1 F
    by_cases kd : doneR x.r
    · rw [dcd_true kd] at hheld ⊢
      simp only [if_true, List.append_nil] at hheld
      rw [← hheld] at S hnd
      (try simp (maxSteps := 1000000) (disch := first | omega | assumption | exact Nat.le_of_ble_eq_true rfl) only [go_sem, ↓mwp_block, simprocAttr, e58])
      refine hJ _ _ ?_ ?_
      · (try simp (maxSteps := 1000000) (disch := first | omega | assumption | exact Nat.le_of_ble_eq_true rfl) only [go_sem, ↓mwp_block, simprocAttr, e3, e9, e56, e57])
        exact ⟨i + 1, rfl, by omega, hnd, hsn fun h => absurd kd h, S.tl⟩
      · (try simp (maxSteps := 1000000) (disch := first | omega | assumption | exact Nat.le_of_ble_eq_true rfl) only [go_sem, ↓mwp_block, simprocAttr, e58])
        omega
    rw [dcd_false kd] at hheld ⊢
    simp only [Bool.false_eq_true, if_false] at hheld
    have hbadN : ¬ (heldL (s.R.take i) ++ x.r.us).Nodup → ¬ placesOK U s := fun hn h => hn (by
      have := h.2.1
      rw [hMr, hheld] at this
      exact (List.nodup_append.1 this).1)
    have hbadT : ∀ j, j < x.r.us.length → ¬ thereV x.r.state (x.r.gs.getD j 0) (placeK s.K (x.r.us.getD j 0)) → ¬ placesOK U s := fun j hj hn h => hn (h.2.2 _ hmr kd j hj)
    ((try clear F); have F := S.all; (try simp only [all_cons, all_nil, says_cell, and_true] at F))
    (try simp (maxSteps := 1000000) (disch := first | omega | assumption | exact Nat.le_of_ble_eq_true rfl) only [go_sem, ↓mwp_block, simprocAttr, F, RetV.enc])
    refine loop_intro (fun ρ' h' => ρ' 3 = .pointer (some ⟨k, 0, none⟩) ∧ ρ' 9 = .map (some m) ∧ ρ' 56 = ρ 56 ∧ ρ' 57 = ρ 57 ∧ ρ' 58 = ρ 58 ∧ ρ' 11 = .pointer (some ⟨q, 0, none⟩) ∧ ρ' 65 = .slice x.A x.r.us.length x.c ∧ ρ' 66 = .int .i64 x.r.us.length ∧ ∃ j : Nat, ρ' 67 = .int .i64 j ∧ j ≤ x.r.us.length ∧ (heldL (s.R.take i) ++ x.r.us.take j).Nodup ∧ (∀ j', j' < j → thereV x.r.state (x.r.gs.getD j' 0) (placeK s.K (x.r.us.getD j' 0))) ∧
      St h0 h' (cellA q x.enc 35 :: mapA m (heldF (heldL (s.R.take i) ++ x.r.us.take j)) :: ownA RetV.enc 14 35 (.slice B vs.length d) vs :: (vs.map retRow ++ (sagaA p D (.slice A U.length c) s :: stockA k s.K :: stcA D (.slice A U.length c) U :: l)))) (fun ρ' _ => x.r.us.length - (iv (ρ' 67)).toNat) ?_ ?_
    · (try simp (maxSteps := 1000000) (disch := first | omega | assumption | exact Nat.le_of_ble_eq_true rfl) only [go_sem, ↓mwp_block, simprocAttr, e3, e9])
      exact ⟨0, rfl, by omega, by simpa using hnd, fun j' h => absurd h (by omega), by simpa using S⟩
    have p56 := e56
    have p57 := e57
    have p58 := e58
    clear S F e3 e9 e56 e57 e58
    rintro ρ' h J' hJ' ⟨e3, e9, e56, e57, e58, e11, e65, e66, j, e67, hj, hnj, hth, S⟩
    (try simp (maxSteps := 1000000) (disch := first | omega | assumption | exact Nat.le_of_ble_eq_true rfl) only [go_sem, ↓mwp_block, simprocAttr, e66, e67])
    refine cond_dec (fun hlt2 => ?_) (fun hlt2 => ?_)
    · have hjl : j < x.r.us.length := by omega
      have hin' : ∀ {h' : Heap}, St h0 h' (cellA q x.enc 35 :: mapA m (heldF (heldL (s.R.take i) ++ x.r.us.take j)) :: ownA RetV.enc 14 35 (.slice B vs.length d) vs :: (vs.map retRow ++ (sagaA p D (.slice A U.length c) s :: stockA k s.K :: stcA D (.slice A U.length c) U :: l))) → _ := fun {h'} S => hin (h' := h') S fun z hz => by simp only [List.mem_cons, List.mem_append]; exact .inr (.inr (.inr (.inl hz)))
      obtain ⟨b2, o2, hA2, q2⟩ := (hin' S).1.at hjl
      obtain ⟨b3, o3, hA3, q3⟩ := (hin' S).2.at (i := j) (by omega)
      have q2 := rd1_part0 q2 (by omega)
      have q3 := rd1_part0 q3 (by omega)
      simp only [zEnc, List.getElem?_cons_zero, Nat.mul_one] at q2 q3
      rw [← getD_at] at q2 q3
      have htk : x.r.us.take (j + 1) = x.r.us.take j ++ [x.r.us.getD j 0] := by rw [List.take_succ_eq_append_getElem hjl, getD_at hjl]
      (try simp (maxSteps := 1000000) (disch := first | omega | assumption | exact Nat.le_of_ble_eq_true rfl) only [go_sem, ↓mwp_block, simprocAttr, e65, e67, hA2, q2, Nat.mul_one])
      have hI : (fun h' => blk h' q = some (x.enc, 35, (0, 0)) ∧ rd1 h' (.pointer (some ⟨b3, o3 + j, none⟩)) = some (.int .i64 (x.r.gs.getD j 0))) h := ⟨S.blk, q3⟩
      have r6 : ∀ K t, readT (fun h' => blk h' q = some (x.enc, 35, (0, 0)) ∧ rd1 h' (.pointer (some ⟨b3, o3 + j, none⟩)) = some (.int .i64 (x.r.gs.getD j 0))) (fun h' => rd1 h' (.pointer (some ⟨q, 6, none⟩))) K t = K (.int .i64 x.r.state) := fun K t => readT_I (fun h' hh => by rw [rd1_blk hh.1]; rfl) h hI
      have r9 : ∀ K t, readT (fun h' => blk h' q = some (x.enc, 35, (0, 0)) ∧ rd1 h' (.pointer (some ⟨b3, o3 + j, none⟩)) = some (.int .i64 (x.r.gs.getD j 0))) (fun h' => rd1 h' (.pointer (some ⟨q, 9, none⟩))) K t = K (.slice x.B x.r.gs.length x.d) := fun K t => readT_I (fun h' hh => by rw [rd1_blk hh.1]; rfl) h hI
      have rg : ∀ K t, readT (fun h' => blk h' q = some (x.enc, 35, (0, 0)) ∧ rd1 h' (.pointer (some ⟨b3, o3 + j, none⟩)) = some (.int .i64 (x.r.gs.getD j 0))) (fun h' => rd1 h' (.pointer (some ⟨b3, o3 + j, none⟩))) K t = K (.int .i64 (x.r.gs.getD j 0)) := fun K t => readT_I (fun h' hh => hh.2) h hI
      refine draw_inv (fun h' => blk h' q = some (x.enc, 35, (0, 0)) ∧ rd1 h' (.pointer (some ⟨b3, o3 + j, none⟩)) = some (.int .i64 (x.r.gs.getD j 0))) hI ?_
      (try simp (maxSteps := 1000000) (disch := first | omega | assumption | exact Nat.le_of_ble_eq_true rfl) only [go_sem, ↓mwp_block, simprocAttr, e9, r6, r9, rg])
      refine any_look (kt := 3) (et := 4) (z := .bool false) rfl (by kernel_rfl) (by kernel_rfl) (zero_run (by kernel_rfl)) (by (try simp (maxSteps := 1000000) (disch := first | omega | assumption | exact Nat.le_of_ble_eq_true rfl) only [go_sem, ↓mwp_block, simprocAttr, e9]); try rfl) (by (try simp (maxSteps := 1000000) (disch := first | omega | assumption | exact Nat.le_of_ble_eq_true rfl) only [go_sem, ↓mwp_block, simprocAttr]); try rfl) S.p1 ?_
      refine ⟨hI, ?_⟩
      by_cases hm : x.r.us.getD j 0 ∈ heldL (s.R.take i) ++ x.r.us.take j
      · rw [show heldF (heldL (s.R.take i) ++ x.r.us.take j) (x.r.us.getD j 0) = some (.bool true) from if_pos (dcd_true hm), Option.getD_some]
        have hx : ¬ (heldL (s.R.take i) ++ x.r.us).Nodup := fun hn => by
          rw [← List.take_append_drop (j + 1) x.r.us, htk, ← List.append_assoc, ← List.append_assoc] at hn
          have h1 := (List.nodup_append.1 hn).1
          have h2 := (List.nodup_append.1 h1).2.2
          exact h2 _ hm _ (by simp) rfl
        (try simp (maxSteps := 1000000) (disch := first | omega | assumption | exact Nat.le_of_ble_eq_true rfl) only [go_sem, ↓mwp_block, simprocAttr])
        exact hK _ _ ⟨by rw [dcd_false (hbadN hx)], S.tl.tl.tl.dropL.d1⟩
      rw [show heldF (heldL (s.R.take i) ++ x.r.us.take j) (x.r.us.getD j 0) = none from if_neg (by rw [dcd_false hm]; decide), Option.getD_none]
      (try simp (maxSteps := 1000000) (disch := first | omega | assumption | exact Nat.le_of_ble_eq_true rfl) only [go_sem, ↓mwp_block, simprocAttr, e3, e11, r6, r9, rg, hA3, Nat.mul_one])
      obtain ⟨M, S1⟩ := st_mem S (X := stockA k s.K) (by simp)
      refine call_intro (PlaceK_ok (x.r.us.getD j 0) S1) ?_
      clear S1 M
      rintro _ _ ⟨rfl, rfl⟩
      refine ⟨hI, ?_⟩
      (try simp (maxSteps := 1000000) (disch := first | omega | assumption | exact Nat.le_of_ble_eq_true rfl) only [go_sem, ↓mwp_block, simprocAttr])
      refine call_intro (there_ok _ _ _ _) ?_
      rintro _ _ ⟨rfl, rfl⟩
      clear r6 r9 rg hI
      by_cases kt : thereV x.r.state (x.r.gs.getD j 0) (placeK s.K (x.r.us.getD j 0))
      case neg =>
        rw [dcd_false kt]
        (try simp (maxSteps := 1000000) (disch := first | omega | assumption | exact Nat.le_of_ble_eq_true rfl) only [go_sem, ↓mwp_block, simprocAttr])
        exact hK _ _ ⟨by rw [dcd_false (hbadT j hjl kt)], S.tl.tl.tl.dropL.d1⟩
      rw [dcd_true kt]
      (try simp (maxSteps := 1000000) (disch := first | omega | assumption | exact Nat.le_of_ble_eq_true rfl) only [go_sem, ↓mwp_block, simprocAttr, e9])
      refine any_put (kt := 3) (et := 4) (v := .bool true) rfl (by kernel_rfl) (by kernel_rfl) (by (try simp (maxSteps := 1000000) (disch := first | omega | assumption | exact Nat.le_of_ble_eq_true rfl) only [go_sem, ↓mwp_block, simprocAttr, e9]); try rfl) (by (try simp (maxSteps := 1000000) (disch := first | omega | assumption | exact Nat.le_of_ble_eq_true rfl) only [go_sem, ↓mwp_block, simprocAttr]); try rfl) rfl S.p1 ?_
      clear S q2 q3
      intro h S
      rw [heldF_snoc, List.append_assoc, ← htk] at S
      (try simp (maxSteps := 1000000) (disch := first | omega | assumption | exact Nat.le_of_ble_eq_true rfl) only [go_sem, ↓mwp_block, simprocAttr, e67])
      refine hJ' _ _ ?_ ?_
      · (try simp (maxSteps := 1000000) (disch := first | omega | assumption | exact Nat.le_of_ble_eq_true rfl) only [go_sem, ↓mwp_block, simprocAttr, e3, e9, e56, e57, e58, e11, e65, e66, hA2])
        refine ⟨j + 1, rfl, by omega, ?_, fun j' hj' => ?_, S.p1⟩
        · rw [htk, ← List.append_assoc]
          exact List.nodup_append.2 ⟨hnj, by simp, fun a ha b hb => by
            simp only [List.mem_singleton] at hb
            rintro rfl
            exact hm (hb ▸ ha)⟩
        · by_cases e : j' = j
          · rw [e]; exact kt
          · exact hth j' (by omega)
      · (try simp (maxSteps := 1000000) (disch := first | omega | assumption | exact Nat.le_of_ble_eq_true rfl) only [go_sem, ↓mwp_block, simprocAttr, e67])
        omega
    obtain rfl : j = x.r.us.length := by omega
    rw [List.take_length] at hnj S
    (try simp (maxSteps := 1000000) (disch := first | omega | assumption | exact Nat.le_of_ble_eq_true rfl) only [go_sem, ↓mwp_block, simprocAttr, e58, p58])
    refine hJ _ _ ?_ ?_
    · (try simp (maxSteps := 1000000) (disch := first | omega | assumption | exact Nat.le_of_ble_eq_true rfl) only [go_sem, ↓mwp_block, simprocAttr, e3, e9, e56, p56, e57, p57])
      exact ⟨i + 1, rfl, by omega, by rw [hheld]; exact hnj, hsn fun _ => hth, by rw [hheld]; exact S.tl⟩
    · (try simp (maxSteps := 1000000) (disch := first | omega | assumption | exact Nat.le_of_ble_eq_true rfl) only [go_sem, ↓mwp_block, simprocAttr, e58, p58])
      omega
  obtain rfl : i = vs.length := by omega
  have hRl : s.R.length = vs.length := by rw [← hvs, List.length_map]
  rw [← hRl, List.take_length] at hnd
  rw [List.take_length, hvs] at hok
  (try simp (maxSteps := 1000000) (disch := first | omega | assumption | exact Nat.le_of_ble_eq_true rfl) only [go_sem, ↓mwp_block, simprocAttr])
  exact hK _ _ ⟨by rw [dcd_true ⟨hfin, hnd, hok⟩], S.tl.tl.dropL.d1⟩
end
end Go.Proofs.YtblalmgahfbalaaGreat.MX
