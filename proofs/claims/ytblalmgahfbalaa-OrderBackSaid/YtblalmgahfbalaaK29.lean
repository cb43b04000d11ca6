/- Texts in one file: Od16, Od17. -/
import Derived.Test.YtblalmgahfbalaaK27
import Derived.Test.YtblalmgahfbalaaK28

/- Orders: what is read. -/
namespace Go.Proofs.Ytblalmgahfbalaa.MX
open Go Go.Proofs
set_option linter.unusedSimpArgs false
set_option linter.unusedVariables false
set_option maxHeartbeats 8000000
/-- What is left to read. -/
abbrev Q := List UInt8 × Bool
noncomputable def vi (q : Q) : Int := IntKind.i64.wrap (vl 8 q)
noncomputable def bytesR (q : Q) : List UInt8 × Q := if (stp 2 q).2 = true ∨ (stp 2 q).1.length < (vl 2 q).toNat then ([], ([], true)) else ((stp 2 q).1.take (vl 2 q).toNat, ((stp 2 q).1.drop (vl 2 q).toNat, false))
noncomputable def pLin (q : Q) : Lin × Q := (⟨vl 2 q, vl 1 (stp 2 q), vi (stp 1 (stp 2 q)), vl 1 (stp 8 (stp 1 (stp 2 q)))⟩, stp 1 (stp 8 (stp 1 (stp 2 q))))
noncomputable def pSup (q : Q) : Sup × Q := (⟨vl 2 q, vi (stp 2 q), vl 1 (stp 8 (stp 2 q))⟩, stp 1 (stp 8 (stp 2 q)))
noncomputable def pMany {α : Type} (p : Q → α × Q) : Nat → Q → List α × Q
  | 0, q => ([], q)
  | n + 1, q => ((pMany p n q).1 ++ [(p (pMany p n q).2).1], (p (pMany p n q).2).2)
/-- What counts of an order. -/
abbrev POd := Int × Int × Int × Int × List Lin
noncomputable def pOdr (q : Q) : POd × Q :=
  ((vl 4 q, vi (stp 4 q), vi (stp 8 (stp 4 q)), vi (stp 8 (stp 8 (stp 4 q))), (pMany pLin (vl 1 (stp 8 (stp 8 (stp 8 (stp 4 q))))).toNat (stp 1 (stp 8 (stp 8 (stp 8 (stp 4 q)))))).1),
    (pMany pLin (vl 1 (stp 8 (stp 8 (stp 8 (stp 4 q))))).toNat (stp 1 (stp 8 (stp 8 (stp 8 (stp 4 q)))))).2)
theorem pMany_len {α : Type} (p : Q → α × Q) (q : Q) : ∀ n, (pMany p n q).1.length = n
  | 0 => rfl
  | n + 1 => by rw [pMany, List.length_append, pMany_len p q n]; rfl
theorem pMany_q {α : Type} {p : Q → α × Q} (h : ∀ q, (p q).2.1.length ≤ q.1.length) (q : Q) : ∀ n, (pMany p n q).2.1.length ≤ q.1.length
  | 0 => Nat.le_refl _
  | n + 1 => Nat.le_trans (h _) (pMany_q h q n)
theorem pLin_q (q : Q) : (pLin q).2.1.length ≤ q.1.length := Nat.le_trans (stp_len 1 _) (Nat.le_trans (stp_len 8 _) (Nat.le_trans (stp_len 1 _) (stp_len 2 q)))
theorem pSup_q (q : Q) : (pSup q).2.1.length ≤ q.1.length := Nat.le_trans (stp_len 1 _) (Nat.le_trans (stp_len 8 _) (stp_len 2 q))
theorem pOdr_q (q : Q) : (pOdr q).2.1.length ≤ q.1.length := Nat.le_trans (pMany_q pLin_q _ _) (Nat.le_trans (stp_len 1 _) (Nat.le_trans (stp_len 8 _) (Nat.le_trans (stp_len 8 _) (Nat.le_trans (stp_len 8 _) (stp_len 4 q)))))
theorem bytesR_q (q : Q) : (bytesR q).2.1.length ≤ q.1.length ∧ (bytesR q).1.length ≤ q.1.length := by
  have := stp_len 2 q
  unfold bytesR
  split
  · simp
  · simp only [List.length_take, List.length_drop]; omega
theorem vl1 (q : Q) : 0 ≤ vl 1 q ∧ vl 1 q < 256 := by have := rdV_nn 1 q.1 q.2; simpa [vl] using this
theorem vl2 (q : Q) : 0 ≤ vl 2 q ∧ vl 2 q < 65536 := by have := rdV_nn 2 q.1 q.2; simpa [vl] using this
section
variable {h0 h : Heap} {l : List HP} {i : Nat} {q : Q}
theorem rd32 (S : St h0 h (inA i q.1 q.2 :: l)) (hl : q.1.length < 1000000000) :
    CallsH Try.prog 68 [.pointer (some ⟨i, 0, none⟩)] h fun r h' => r = .int .i64 (vl 4 q) ∧ St h0 h' (inA i (stp 4 q).1 (stp 4 q).2 :: l) := inU32_ok S hl
theorem rd64 (S : St h0 h (inA i q.1 q.2 :: l)) (hl : q.1.length < 1000000000) :
    CallsH Try.prog 41 [.pointer (some ⟨i, 0, none⟩)] h fun r h' => r = .int .i64 (vi q) ∧ St h0 h' (inA i (stp 8 q).1 (stp 8 q).2 :: l) := by
  (refine enterK c_codec_In_I64 (Nat.le_of_ble_eq_true rfl) fun K hK => ?_; (try simp (maxSteps := 1000000) (disch := first | omega | assumption | exact Nat.le_of_ble_eq_true rfl) only [go_sem, ↓mwp_block, simprocAttr, ir_codec_In_I64]))
  refine call_intro (inNumber_ok 8 S (by omega) hl) ?_
  rintro _ h ⟨rfl, S⟩
  (try simp (maxSteps := 1000000) (disch := first | omega | assumption | exact Nat.le_of_ble_eq_true rfl) only [go_sem, ↓mwp_block, simprocAttr])
  exact hK _ _ ⟨rfl, S⟩
theorem rdBytes (S : St h0 h (inA i q.1 q.2 :: l)) (hl : q.1.length < 1000000000) :
    CallsH Try.prog 37 [.pointer (some ⟨i, 0, none⟩)] h fun r h' => St h0 h' (ownA bEnc 1 5 r (bytesR q).1 :: inA i (bytesR q).2.1 (bytesR q).2.2 :: l) := by
  have hv := vl2 q
  have hl2 := stp_len 2 q
  obtain ⟨n, hn⟩ : ∃ n : Nat, vl 2 q = n := ⟨(vl 2 q).toNat, by omega⟩
  (refine enterK c_codec_In_Bytes (Nat.le_of_ble_eq_true rfl) fun K hK => ?_; (try simp (maxSteps := 1000000) (disch := first | omega | assumption | exact Nat.le_of_ble_eq_true rfl) only [go_sem, ↓mwp_block, simprocAttr, ir_codec_In_Bytes]))
  refine call_intro (rd16 S hl) ?_
  clear S
  rintro _ h ⟨rfl, S⟩
  rw [hn]
  (try simp (maxSteps := 1000000) (disch := first | omega | assumption | exact Nat.le_of_ble_eq_true rfl) only [go_sem, ↓mwp_block, simprocAttr])
  have hP : CallsH Try.prog 66 [.pointer (some ⟨i, 0, none⟩), .int .i64 n] h fun r h' => St h0 h' (ownA bEnc 1 5 r (bytesR q).1 :: inA i (bytesR q).2.1 (bytesR q).2.2 :: l) := by
    by_cases hb : (stp 2 q).2 = true ∨ (stp 2 q).1.length < n
    · have hR : bytesR q = ([], ([], true)) := by unfold bytesR; rw [hn, Int.toNat_natCast, if_pos hb]
      rw [hR]
      (refine enterK c_codec_In_Plain (Nat.le_of_ble_eq_true rfl) fun K hK => ?_; (try simp (maxSteps := 1000000) (disch := first | omega | assumption | exact Nat.le_of_ble_eq_true rfl) only [go_sem, ↓mwp_block, simprocAttr, ir_codec_In_Plain]))
      refine call_intro (take_bad n S hb (by omega) (by omega)) ?_
      clear S
      rintro _ h ⟨rfl, S⟩
      (try simp (maxSteps := 1000000) (disch := first | omega | assumption | exact Nat.le_of_ble_eq_true rfl) only [go_sem, ↓mwp_block, simprocAttr])
      refine call_intro (CloneB_ok (xs := []) S (Arr.nil _ _ _ _) rfl (fun _ => rfl) (by decide)) ?_
      rintro v h ⟨S, _⟩
      (try simp (maxSteps := 1000000) (disch := first | omega | assumption | exact Nat.le_of_ble_eq_true rfl) only [go_sem, ↓mwp_block, simprocAttr])
      exact hK _ _ S
    · have hbf : (stp 2 q).2 = false := by cases h : (stp 2 q).2 with
        | false => rfl
        | true => exact (hb (.inl h)).elim
      have hle : n ≤ (stp 2 q).1.length := by omega
      have hR : bytesR q = ((stp 2 q).1.take n, ((stp 2 q).1.drop n, false)) := by unfold bytesR; rw [hn, Int.toNat_natCast, if_neg hb]
      rw [hR]
      rw [hbf] at S
      generalize (stp 2 q).1 = bs at *
      have htl : (bs.take n).length = n := by rw [List.length_take]; omega
      (refine enterK c_codec_In_Plain (Nat.le_of_ble_eq_true rfl) fun K hK => ?_; (try simp (maxSteps := 1000000) (disch := first | omega | assumption | exact Nat.le_of_ble_eq_true rfl) only [go_sem, ↓mwp_block, simprocAttr, ir_codec_In_Plain]))
      refine call_intro (take_ok n S hle (by omega)) ?_
      clear S
      rintro _ h ⟨A, B, c, rfl, hp, S⟩
      have hview := S.p1.view (x := (A, bs.take n)) (by simp)
      (try simp (maxSteps := 1000000) (disch := first | omega | assumption | exact Nat.le_of_ble_eq_true rfl) only [go_sem, ↓mwp_block, simprocAttr])
      refine call_intro (CloneB_ok (xs := bs.take n) S hview htl.symm (arr_none hview) (by omega)) ?_
      clear S hview
      rintro v h ⟨S, _⟩
      (try simp (maxSteps := 1000000) (disch := first | omega | assumption | exact Nat.le_of_ble_eq_true rfl) only [go_sem, ↓mwp_block, simprocAttr])
      refine hK _ _ ?_
      have S1 : St h0 h (viewsA [(B, bs.drop n)] :: _) := S.p2.reView (M := [(B, bs.drop n)]) (by
        intro x hx
        simp only [List.mem_cons, List.not_mem_nil, or_false] at hx
        subst hx
        exact S.p2.view (by simp)) (by
        intro x hx b hb
        simp only [List.mem_cons, List.not_mem_nil, or_false] at hx
        subst hx
        exact ⟨_, by simp, hb⟩)
      exact (inA_open.2 ⟨B, c, hp, S1.p2⟩).p1
  refine call_intro hP ?_
  intro v h S
  (try simp (maxSteps := 1000000) (disch := first | omega | assumption | exact Nat.le_of_ble_eq_true rfl) only [go_sem, ↓mwp_block, simprocAttr])
  exact hK _ _ S
set_option maxRecDepth 20000 in
theorem rdOrder_ok (S : St h0 h (inA i q.1 q.2 :: l)) (hl : q.1.length < 1000000000) :
    CallsH Try.prog 39 [.pointer (some ⟨i, 0, none⟩)] h fun r h' => ∃ o : Odr, r = .agg o.enc.toArray ∧ o.pu = (pOdr q).1 ∧ St h0 h' (ownA Lin.enc 4 42 (.slice o.A o.ls.length o.c) o.ls :: inA i (pOdr q).2.1 (pOdr q).2.2 :: l) := by
  have m1 := stp_len 4 q
  have m2 := stp_len 8 (stp 4 q)
  have m3 := stp_len 8 (stp 8 (stp 4 q))
  have m4 := stp_len 8 (stp 8 (stp 8 (stp 4 q)))
  have m5 := stp_len 1 (stp 8 (stp 8 (stp 8 (stp 4 q))))
  have hcv := vl1 (stp 8 (stp 8 (stp 8 (stp 4 q))))
  (refine enterK c_order_order (Nat.le_of_ble_eq_true rfl) fun K hK => ?_; (try simp (maxSteps := 1000000) (disch := first | omega | assumption | exact Nat.le_of_ble_eq_true rfl) only [go_sem, ↓mwp_block, simprocAttr, ir_order_order]))
  (refine st_alloc S ?_; clear S; intro p h S; (try simp only [splice_cons, splice_nil, List.set_cons_zero, List.set_cons_succ, Nat.zero_add, Nat.reduceAdd, List.cons_append, List.nil_append] at S); ((try clear F); have F := S.all; (try simp only [all_cons, all_nil, says_cell, and_true] at F)))
  (try simp (maxSteps := 1000000) (disch := first | omega | assumption | exact Nat.le_of_ble_eq_true rfl) only [go_sem, ↓mwp_block, simprocAttr])
  refine call_intro (rd32 S.p1 hl) ?_
  clear S F
  rintro _ h ⟨rfl, S⟩
  (try simp (maxSteps := 1000000) (disch := first | omega | assumption | exact Nat.le_of_ble_eq_true rfl) only [go_sem, ↓mwp_block, simprocAttr])
  refine call_intro (rd64 S (by omega)) ?_
  clear S
  rintro _ h ⟨rfl, S⟩
  (try simp (maxSteps := 1000000) (disch := first | omega | assumption | exact Nat.le_of_ble_eq_true rfl) only [go_sem, ↓mwp_block, simprocAttr])
  refine call_intro (rd64 S (by omega)) ?_
  clear S
  rintro _ h ⟨rfl, S⟩
  (try simp (maxSteps := 1000000) (disch := first | omega | assumption | exact Nat.le_of_ble_eq_true rfl) only [go_sem, ↓mwp_block, simprocAttr])
  refine call_intro (rd64 S (by omega)) ?_
  clear S
  rintro _ h ⟨rfl, S⟩
  (try simp (maxSteps := 1000000) (disch := first | omega | assumption | exact Nat.le_of_ble_eq_true rfl) only [go_sem, ↓mwp_block, simprocAttr])
  (refine st_alloc S ?_; clear S; intro d h S; (try simp only [splice_cons, splice_nil, List.set_cons_zero, List.set_cons_succ, Nat.zero_add, Nat.reduceAdd, List.cons_append, List.nil_append] at S); ((try clear F); have F := S.all; (try simp only [all_cons, all_nil, says_cell, and_true] at F)))
  (try simp (maxSteps := 1000000) (disch := first | omega | assumption | exact Nat.le_of_ble_eq_true rfl) only [go_sem, ↓mwp_block, simprocAttr])
  (refine st_store (by first | exact S | exact S.p1 | exact S.p2 | exact S.p3 | exact S.p4 | exact S.p5 | exact S.p6 | exact S.p7 | exact S.p8 | exact S.p9 | exact S.p10 | exact S.p11) (by rfl) (by rfl) (Nat.le_of_ble_eq_true rfl) ?_; clear S; intro h S; (try simp only [splice_cons, splice_nil, List.set_cons_zero, List.set_cons_succ, Nat.zero_add, Nat.reduceAdd, List.cons_append, List.nil_append] at S); ((try clear F); have F := S.all; (try simp only [all_cons, all_nil, says_cell, and_true] at F)))
  clear F
  (try simp (maxSteps := 1000000) (disch := first | omega | assumption | exact Nat.le_of_ble_eq_true rfl) only [go_sem, ↓mwp_block, simprocAttr])
  refine call_intro (rd8 S.p1 (by omega)) ?_
  clear S
  rintro _ h ⟨rfl, S⟩
  have hpo : pOdr q = ((vl 4 q, vi (stp 4 q), vi (stp 8 (stp 4 q)), vi (stp 8 (stp 8 (stp 4 q))), (pMany pLin (vl 1 (stp 8 (stp 8 (stp 8 (stp 4 q))))).toNat (stp 1 (stp 8 (stp 8 (stp 8 (stp 4 q)))))).1),
    (pMany pLin (vl 1 (stp 8 (stp 8 (stp 8 (stp 4 q))))).toNat (stp 1 (stp 8 (stp 8 (stp 8 (stp 4 q)))))).2) := rfl
  obtain ⟨n, hn⟩ : ∃ n : Nat, vl 1 (stp 8 (stp 8 (stp 8 (stp 4 q)))) = n := ⟨(vl 1 (stp 8 (stp 8 (stp 8 (stp 4 q))))).toNat, by omega⟩
  rw [hn] at hpo hcv ⊢
  rw [Int.toNat_natCast] at hpo
  generalize vl 4 q = day at *
  generalize vi (stp 4 q) = disc at *
  generalize vi (stp 8 (stp 4 q)) = tax at *
  generalize vi (stp 8 (stp 8 (stp 4 q))) = ship at *
  generalize hq5 : stp 1 (stp 8 (stp 8 (stp 8 (stp 4 q)))) = q5 at *
  have hq5l : q5.1.length < 1000000000 := by omega
  have S : St h0 h (ownA Lin.enc 4 42 (.slice none 0 0) [] :: _) := S.nilS
  (try simp (maxSteps := 1000000) (disch := first | omega | assumption | exact Nat.le_of_ble_eq_true rfl) only [go_sem, ↓mwp_block, simprocAttr])
  refine loop_intro (fun ρ h' => ρ 0 = .pointer (some ⟨i, 0, none⟩) ∧ ρ 2 = .pointer (some ⟨p, 0, none⟩) ∧ ρ 3 = .pointer (some ⟨d, 0, none⟩) ∧ ρ 14 = .int .i64 n ∧ ∃ (k : Nat) (A : Option Addr) (c : Nat), ρ 15 = .int .i64 k ∧ k ≤ n ∧
    St h0 h' (ownA Lin.enc 4 42 (.slice A k c) (pMany pLin k q5).1 :: inA i (pMany pLin k q5).2.1 (pMany pLin k q5).2.2 :: cellA d [.int .i64 day, .slice A k c, .int .i64 disc, .int .i64 tax, .int .i64 ship] 40 :: cellA p [.int .i64 0, .slice none 0 0, .int .i64 0, .int .i64 0, .int .i64 0] 40 :: l)) (fun ρ _ => n - (iv (ρ 15)).toNat) ?_ ?_
  · (try simp (maxSteps := 1000000) (disch := first | omega | assumption | exact Nat.le_of_ble_eq_true rfl) only [go_sem, ↓mwp_block, simprocAttr])
    exact ⟨0, none, 0, rfl, by omega, S⟩
  clear S
  rintro ρ h J hJ ⟨e0, e2, e3, e14, k, A, c, e15, hk, S⟩
  (try simp (maxSteps := 1000000) (disch := first | omega | assumption | exact Nat.le_of_ble_eq_true rfl) only [go_sem, ↓mwp_block, simprocAttr, e14, e15])
  refine cond_dec (fun hlt => ?_) (fun hlt => ?_)
  · have hkn : k < n := by omega
    have hsucc : pMany pLin (k + 1) q5 = ((pMany pLin k q5).1 ++ [(pLin (pMany pLin k q5).2).1], (pLin (pMany pLin k q5).2).2) := rfl
    have hll := pMany_len pLin q5 k
    have hql := pMany_q pLin_q q5 k
    generalize pMany pLin k q5 = R at *
    obtain ⟨xs, r⟩ := R
    simp only at hsucc hll hql S
    have b1 := stp_len 2 r
    have b2 := stp_len 1 (stp 2 r)
    have b3 := stp_len 8 (stp 1 (stp 2 r))
    have hrd : rd1 h (.pointer (some ⟨d, 1, none⟩)) = some (.slice A k c) := st_rd1 S.p2
    have rx : ∀ K t, readT (fun h' => rd1 h' (.pointer (some ⟨d, 1, none⟩)) = some (.slice A k c)) (fun h' => rd1 h' (.pointer (some ⟨d, 1, none⟩))) K t = K (.slice A k c) := fun K t => readT_v _ hrd
    (try simp (maxSteps := 1000000) (disch := first | omega | assumption | exact Nat.le_of_ble_eq_true rfl) only [go_sem, ↓mwp_block, simprocAttr])
    refine draw_inv (fun h' => rd1 h' (.pointer (some ⟨d, 1, none⟩)) = some (.slice A k c)) hrd ?_
    (try simp (maxSteps := 1000000) (disch := first | omega | assumption | exact Nat.le_of_ble_eq_true rfl) only [go_sem, ↓mwp_block, simprocAttr, e0, e3, rx])
    refine call_intro (rd16 S.p1 (by omega)) ?_
    clear S hrd rx
    rintro _ h ⟨rfl, S⟩
    refine ⟨st_rd1 S.p2, ?_⟩
    (try simp (maxSteps := 1000000) (disch := first | omega | assumption | exact Nat.le_of_ble_eq_true rfl) only [go_sem, ↓mwp_block, simprocAttr])
    refine call_intro (rd8 S (by omega)) ?_
    clear S
    rintro _ h ⟨rfl, S⟩
    refine ⟨st_rd1 S.p2, ?_⟩
    (try simp (maxSteps := 1000000) (disch := first | omega | assumption | exact Nat.le_of_ble_eq_true rfl) only [go_sem, ↓mwp_block, simprocAttr])
    refine call_intro (rd64 S (by omega)) ?_
    clear S
    rintro _ h ⟨rfl, S⟩
    refine ⟨st_rd1 S.p2, ?_⟩
    (try simp (maxSteps := 1000000) (disch := first | omega | assumption | exact Nat.le_of_ble_eq_true rfl) only [go_sem, ↓mwp_block, simprocAttr])
    refine call_intro (rd8 S (by omega)) ?_
    clear S
    rintro _ h ⟨rfl, S⟩
    refine ⟨st_rd1 S.p2, ?_⟩
    (try simp (maxSteps := 1000000) (disch := first | omega | assumption | exact Nat.le_of_ble_eq_true rfl) only [go_sem, ↓mwp_block, simprocAttr])
    (refine st_alloc S ?_; clear S; intro g h S; (try simp only [splice_cons, splice_nil, List.set_cons_zero, List.set_cons_succ, Nat.zero_add, Nat.reduceAdd, List.cons_append, List.nil_append] at S); ((try clear F); have F := S.all; (try simp only [all_cons, all_nil, says_cell, and_true] at F)))
    refine ⟨st_rd1 S.p3, ?_⟩
    (try simp (maxSteps := 1000000) (disch := first | omega | assumption | exact Nat.le_of_ble_eq_true rfl) only [go_sem, ↓mwp_block, simprocAttr])
    refine st_append1 (bytes := 32) (x := (pLin r).1) Lin.enc_len (by omega) Lin.enc_plain rfl rfl S.p2.p1 (by omega) (by omega) ?_
    clear S F
    intro v h S
    obtain ⟨A', c', rfl⟩ := S.sl
    rw [List.length_append, hll] at S ⊢
    (try simp (maxSteps := 1000000) (disch := first | omega | assumption | exact Nat.le_of_ble_eq_true rfl) only [go_sem, ↓mwp_block, simprocAttr, e3])
    refine st_store S.p2 rfl rfl (Nat.le_of_ble_eq_true rfl) ?_
    clear S
    intro h S
    (try simp only [splice_cons, splice_nil, List.set_cons_zero, List.set_cons_succ, Nat.zero_add, Nat.reduceAdd, List.cons_append, List.nil_append] at S)
    (try simp (maxSteps := 1000000) (disch := first | omega | assumption | exact Nat.le_of_ble_eq_true rfl) only [go_sem, ↓mwp_block, simprocAttr, e15])
    refine hJ _ _ ?_ ?_
    · (try simp (maxSteps := 1000000) (disch := first | omega | assumption | exact Nat.le_of_ble_eq_true rfl) only [go_sem, ↓mwp_block, simprocAttr, e0, e2, e3, e14])
      refine ⟨k + 1, A', c', rfl, by omega, ?_⟩
      rw [hsucc]
      exact S.p1.p2.p1
    · (try simp (maxSteps := 1000000) (disch := first | omega | assumption | exact Nat.le_of_ble_eq_true rfl) only [go_sem, ↓mwp_block, simprocAttr, e15])
      omega
  · obtain rfl : k = n := by omega
    have hll := pMany_len pLin q5 k
    ((try clear F); have F := S.all; (try simp only [all_cons, all_nil, says_cell, and_true] at F))
    (try simp (maxSteps := 1000000) (disch := first | omega | assumption | exact Nat.le_of_ble_eq_true rfl) only [go_sem, ↓mwp_block, simprocAttr, e2, e3, F])
    refine st_store S.p3 rfl rfl (Nat.le_of_ble_eq_true rfl) ?_
    clear S F
    intro h S
    (try simp only [splice_cons, splice_nil, List.set_cons_zero, List.set_cons_succ, Nat.zero_add, Nat.reduceAdd, List.cons_append, List.nil_append] at S)
    ((try clear F); have F := S.all; (try simp only [all_cons, all_nil, says_cell, and_true] at F))
    (try simp (maxSteps := 1000000) (disch := first | omega | assumption | exact Nat.le_of_ble_eq_true rfl) only [go_sem, ↓mwp_block, simprocAttr, e2, F])
    refine hK _ _ ⟨⟨day, A, c, (pMany pLin k q5).1, disc, tax, ship⟩, ?_, ?_, ?_⟩
    · rw [Odr.enc, hll]
    · rw [hpo]; rfl
    · rw [hpo, hll]
      exact S.tl.p2.tl
end
end Go.Proofs.Ytblalmgahfbalaa.MX

/- Orders: a config that is read. -/
namespace Go.Proofs.Ytblalmgahfbalaa.MX
open Go Go.Proofs
set_option linter.unusedSimpArgs false
set_option linter.unusedVariables false
set_option maxHeartbeats 8000000
set_option maxRecDepth 20000
def oRow (o : Odr) : HP := ownA Lin.enc 4 42 (.slice o.A o.ls.length o.c) o.ls
theorem st_mem {h0 h : Heap} {L : List HP} {X : HP} (S : St h0 h L) (hx : X ∈ L) : ∃ M, St h0 h (X :: M) := by
  obtain ⟨a, b, rfl⟩ := List.append_of_mem hx
  exact ⟨_, S.perm List.perm_middle⟩
theorem rows_arr {h0 h : Heap} {L l : List HP} {os : List Odr} (S : St h0 h (L ++ (os.map oRow ++ l))) : ∀ o ∈ os, Arr Lin.enc 4 h o.A o.ls ∧ o.ls.length ≤ o.c ∧ o.c < 9223372036854775808 := fun o ho => by
  obtain ⟨M, S⟩ := st_mem S (X := oRow o) (List.mem_append_right _ (List.mem_append_left _ (List.mem_map_of_mem ho)))
  obtain ⟨_, h1, h2⟩ := S.cap
  exact ⟨S.arr Lin.enc_len, h1, h2⟩
theorem okOrder_pu {k : Int} {x y : Odr} (h : x.pu = y.pu) : okOrder k x → okOrder k y := by
  obtain ⟨a1, A1, c1, l1, d1, t1, s1⟩ := x
  obtain ⟨a2, A2, c2, l2, d2, t2, s2⟩ := y
  simp only [Odr.pu, Prod.mk.injEq] at h
  obtain ⟨rfl, rfl, rfl, rfl, rfl⟩ := h
  exact id
theorem ordSum_pu : ∀ {xs ys : List Odr}, xs.map Odr.pu = ys.map Odr.pu → ordSum xs = ordSum ys
  | [], [], _ => rfl
  | x :: xs, y :: ys, h => by
    simp only [List.map_cons, List.cons.injEq] at h
    have h1 := ordSum_pu h.2
    have h2 : x.ls = y.ls := congrArg (fun z => z.2.2.2.2) h.1
    simp only [ordSum, List.map_cons, List.sum_cons, h2] at h1 ⊢
    rw [h1]
  | [], y :: ys, h => by simp at h
  | x :: xs, [], h => by simp at h
theorem okCfg_pu {C D : Cfg} (h : C.pu = D.pu) (hok : okCfg C) : okCfg D := by
  have h1 : C.ps = D.ps := congrArg (fun z => z.1) h
  have h2 : C.ss = D.ss := congrArg (fun z => z.2.1) h
  have h3 : C.os.map Odr.pu = D.os.map Odr.pu := congrArg (fun z => z.2.2) h
  have hl : C.os.length = D.os.length := by have := congrArg List.length h3; simpa using this
  obtain ⟨k0, k1, k2, k3, k4, k5⟩ := hok
  refine ⟨h1 ▸ k0, by omega, by rw [← h2]; exact k2, fun o ho => ?_, h2 ▸ k4, ?_⟩
  · have : o.pu ∈ C.os.map Odr.pu := by rw [h3]; exact List.mem_map_of_mem ho
    obtain ⟨x, hx, e⟩ := List.mem_map.1 this
    rw [← h1]
    exact okOrder_pu e (k3 x hx)
  · have e1 : totOf C = ordSum C.os + supSum C.ss := rfl
    have e2 : totOf D = ordSum D.os + supSum D.ss := rfl
    rw [e2, ← ordSum_pu h3, ← h2, ← e1]
    exact k5
/-- What is read of some bytes: the table's bytes, the orders, the supplies, and what is left. -/
noncomputable def decO (b : List UInt8) : List POd × Q := pMany pOdr (vl 1 (bytesR (b, false)).2).toNat (stp 1 (bytesR (b, false)).2)
noncomputable def decS (b : List UInt8) : List Sup × Q := pMany pSup (vl 1 (decO b).2).toNat (stp 1 (decO b).2)
def Reads (b : List UInt8) (C : Cfg) : Prop := okCfg C ∧ encT C.ps = (bytesR (b, false)).1 ∧ C.os.map Odr.pu = (decO b).1 ∧ C.ss = (decS b).1 ∧ (decS b).2 = ([], false)
theorem pOdrs_lines (q : Q) : ∀ n, ∀ x ∈ (pMany pOdr n q).1, x.2.2.2.2.length < 256
  | 0, x, hx => by cases hx
  | n + 1, x, hx => by
    rw [pMany, List.mem_append, List.mem_singleton] at hx
    rcases hx with hx | rfl
    · exact pOdrs_lines q n x hx
    · generalize (pMany pOdr n q).2 = r
      have := vl1 (stp 8 (stp 8 (stp 8 (stp 4 r))))
      show (pMany pLin _ _).1.length < 256
      rw [pMany_len]
      omega
section
variable {h0 h : Heap} {l : List HP}
theorem ODecode_ok {A : Option Addr} {c : Nat} {b : List UInt8} (S : St h0 h l) (ha : ∀ h', St h0 h' l → Arr bEnc 1 h' A b) (hl : b.length < 1000000) :
    CallsH Try.prog 18 [.slice A b.length c] h fun v h' =>
      (∃ C : Cfg, v = .tuple #[.agg C.enc.toArray, .int .i64 0] ∧ C.wf ∧ Reads b C ∧ St h0 h' (ownA Odr.enc 5 40 (.slice C.A1 C.os.length C.c1) C.os :: ownA Sup.enc 3 57 (.slice C.A2 C.ss.length C.c2) C.ss :: ownA Pol.enc 16 78 (.slice C.A3 C.ps.length C.c3) C.ps :: (C.os.map oRow ++ l))) ∨
      (v = .tuple #[.agg c0C.enc.toArray, .int .i64 3] ∧ (¬ ∃ C, Reads b C) ∧ St h0 h' l) := by
  have hq1 := (bytesR_q (b, false)).1
  have htb := (bytesR_q (b, false)).2
  have hn1 := vl1 (bytesR (b, false)).2
  have hs1 := stp_len 1 (bytesR (b, false)).2
  (refine enterK c_order_Decode (Nat.le_of_ble_eq_true rfl) fun K hK => ?_; (try simp (maxSteps := 1000000) (disch := first | omega | assumption | exact Nat.le_of_ble_eq_true rfl) only [go_sem, ↓mwp_block, simprocAttr, ir_order_Decode]))
  (refine st_alloc S ?_; clear S; intro p h S; (try simp only [splice_cons, splice_nil, List.set_cons_zero, List.set_cons_succ, Nat.zero_add, Nat.reduceAdd, List.cons_append, List.nil_append] at S); ((try clear F); have F := S.all; (try simp only [all_cons, all_nil, says_cell, and_true] at F)))
  (try simp (maxSteps := 1000000) (disch := first | omega | assumption | exact Nat.le_of_ble_eq_true rfl) only [go_sem, ↓mwp_block, simprocAttr])
  refine call_intro (NewIn_ok S (ha _ S.tl) (arr_none (ha _ S.tl)) (by omega)) ?_
  clear S F
  rintro _ h ⟨i, rfl, S⟩
  (try simp (maxSteps := 1000000) (disch := first | omega | assumption | exact Nat.le_of_ble_eq_true rfl) only [go_sem, ↓mwp_block, simprocAttr])
  (refine st_alloc S ?_; clear S; intro d h S; (try simp only [splice_cons, splice_nil, List.set_cons_zero, List.set_cons_succ, Nat.zero_add, Nat.reduceAdd, List.cons_append, List.nil_append] at S); ((try clear F); have F := S.all; (try simp only [all_cons, all_nil, says_cell, and_true] at F)))
  clear F
  (try simp (maxSteps := 1000000) (disch := first | omega | assumption | exact Nat.le_of_ble_eq_true rfl) only [go_sem, ↓mwp_block, simprocAttr])
  refine call_intro (rdBytes (q := (b, false)) S.p1 (by simp only; omega)) ?_
  clear S
  intro v h S
  obtain ⟨At, ct, rfl⟩ := S.sl
  (try simp (maxSteps := 1000000) (disch := first | omega | assumption | exact Nat.le_of_ble_eq_true rfl) only [go_sem, ↓mwp_block, simprocAttr])
  refine call_intro (Decode_ok S (S.arr bEnc_len) (by simp only at htb; omega)) ?_
  clear S
  intro v h H
  obtain ⟨sp, ps, e, rfl, S, hT⟩ : ∃ sp ps, ∃ e : Int, v = .tuple #[sp, .int .i64 e] ∧ St h0 h (ownA Pol.enc 16 78 sp ps :: ownA bEnc 1 5 (.slice At (bytesR (b, false)).1.length ct) (bytesR (b, false)).1 :: inA i (bytesR (b, false)).2.1 (bytesR (b, false)).2.2 :: cellA d [.slice none 0 0, .slice none 0 0, .slice none 0 0] 26 :: cellA p [.slice none 0 0, .slice none 0 0, .slice none 0 0] 26 :: l) ∧ ((e = 0 ∧ RightT ps ∧ encT ps = (bytesR (b, false)).1) ∨ (e = 3 ∧ ¬ IsT (bytesR (b, false)).1)) := by
    rcases H with ⟨ps, sp, hR, he, rfl, S⟩ | ⟨hn, rfl, S⟩
    · exact ⟨sp, ps, 0, rfl, S, .inl ⟨rfl, hR, he⟩⟩
    · exact ⟨_, [], 3, rfl, S.nilS, .inr ⟨rfl, hn⟩⟩
  clear H
  obtain ⟨Ap, cp, rfl⟩ := S.sl
  have S := S.d1
  (try simp (maxSteps := 1000000) (disch := first | omega | assumption | exact Nat.le_of_ble_eq_true rfl) only [go_sem, ↓mwp_block, simprocAttr])
  refine st_store S.p2 rfl rfl (Nat.le_of_ble_eq_true rfl) ?_
  clear S
  intro h S
  (try simp only [splice_cons, splice_nil, List.set_cons_zero, List.set_cons_succ, Nat.zero_add, Nat.reduceAdd, List.cons_append, List.nil_append] at S)
  (try simp (maxSteps := 1000000) (disch := first | omega | assumption | exact Nat.le_of_ble_eq_true rfl) only [go_sem, ↓mwp_block, simprocAttr])
  refine call_intro (rd8 S.p2 (by simp only at hq1; omega)) ?_
  clear S
  rintro _ h ⟨rfl, S⟩
  have hdO : decO b = pMany pOdr (vl 1 (bytesR (b, false)).2).toNat (stp 1 (bytesR (b, false)).2) := rfl
  obtain ⟨n, hn⟩ : ∃ n : Nat, vl 1 (bytesR (b, false)).2 = n := ⟨(vl 1 (bytesR (b, false)).2).toNat, by omega⟩
  rw [hn] at hdO hn1 ⊢
  rw [Int.toNat_natCast] at hdO
  have hq5l : (stp 1 (bytesR (b, false)).2).1.length < 1000000 := by simp only at hq1; omega
  generalize stp 1 (bytesR (b, false)).2 = q5 at *
  have S : St h0 h (ownA Odr.enc 5 40 (.slice none 0 0) [] :: _) := S.nilS
  (try simp (maxSteps := 1000000) (disch := first | omega | assumption | exact Nat.le_of_ble_eq_true rfl) only [go_sem, ↓mwp_block, simprocAttr])
  refine loop_intro (fun ρ h' => ρ 2 = .pointer (some ⟨p, 0, none⟩) ∧ ρ 4 = .pointer (some ⟨i, 0, none⟩) ∧ ρ 5 = .pointer (some ⟨d, 0, none⟩) ∧ ρ 7 = .int .i64 e ∧ ρ 19 = .int .i64 n ∧ ∃ (k : Nat) (A : Option Addr) (c : Nat) (zs : List Odr), ρ 20 = .int .i64 k ∧ k ≤ n ∧ zs.map Odr.pu = (pMany pOdr k q5).1 ∧
    St h0 h' (ownA Odr.enc 5 40 (.slice A k c) zs :: inA i (pMany pOdr k q5).2.1 (pMany pOdr k q5).2.2 :: cellA d [.slice A k c, .slice none 0 0, .slice Ap ps.length cp] 26 :: ownA Pol.enc 16 78 (.slice Ap ps.length cp) ps :: cellA p [.slice none 0 0, .slice none 0 0, .slice none 0 0] 26 :: (zs.map oRow ++ l))) (fun ρ _ => n - (iv (ρ 20)).toNat) ?_ ?_
  · (try simp (maxSteps := 1000000) (disch := first | omega | assumption | exact Nat.le_of_ble_eq_true rfl) only [go_sem, ↓mwp_block, simprocAttr])
    exact ⟨0, none, 0, [], rfl, by omega, rfl, S⟩
  clear S
  rintro ρ h J hJ ⟨e2, e4, e5, e7, e19, k, A1, c1, zs, e20, hk, hzs, S⟩
  (try simp (maxSteps := 1000000) (disch := first | omega | assumption | exact Nat.le_of_ble_eq_true rfl) only [go_sem, ↓mwp_block, simprocAttr, e19, e20])
  refine cond_dec (fun hlt => ?_) (fun hlt => ?_)
  · have hkn : k < n := by omega
    have hsucc : pMany pOdr (k + 1) q5 = ((pMany pOdr k q5).1 ++ [(pOdr (pMany pOdr k q5).2).1], (pOdr (pMany pOdr k q5).2).2) := rfl
    have hll := pMany_len pOdr q5 k
    have hql := pMany_q pOdr_q q5 k
    generalize pMany pOdr k q5 = R at *
    obtain ⟨xs, r⟩ := R
    simp only at hsucc hll hql S hzs
    have hzl : zs.length = k := by have := congrArg List.length hzs; rw [List.length_map] at this; omega
    have hrd : rd1 h (.pointer (some ⟨d, 0, none⟩)) = some (.slice A1 k c1) := st_rd1 S.p2
    have rx : ∀ K t, readT (fun h' => rd1 h' (.pointer (some ⟨d, 0, none⟩)) = some (.slice A1 k c1)) (fun h' => rd1 h' (.pointer (some ⟨d, 0, none⟩))) K t = K (.slice A1 k c1) := fun K t => readT_v _ hrd
    (try simp (maxSteps := 1000000) (disch := first | omega | assumption | exact Nat.le_of_ble_eq_true rfl) only [go_sem, ↓mwp_block, simprocAttr])
    refine draw_inv (fun h' => rd1 h' (.pointer (some ⟨d, 0, none⟩)) = some (.slice A1 k c1)) hrd ?_
    (try simp (maxSteps := 1000000) (disch := first | omega | assumption | exact Nat.le_of_ble_eq_true rfl) only [go_sem, ↓mwp_block, simprocAttr, e4, e5, rx])
    refine call_intro (rdOrder_ok S.p1 (by omega)) ?_
    clear S hrd rx
    rintro _ h ⟨o, rfl, ho, S⟩
    refine ⟨st_rd1 S.p3, ?_⟩
    (try simp (maxSteps := 1000000) (disch := first | omega | assumption | exact Nat.le_of_ble_eq_true rfl) only [go_sem, ↓mwp_block, simprocAttr, Odr.enc])
    (refine st_alloc S ?_; clear S; intro g h S; (try simp only [splice_cons, splice_nil, List.set_cons_zero, List.set_cons_succ, Nat.zero_add, Nat.reduceAdd, List.cons_append, List.nil_append] at S); ((try clear F); have F := S.all; (try simp only [all_cons, all_nil, says_cell, and_true] at F)))
    refine ⟨st_rd1 S.p4, ?_⟩
    (try simp (maxSteps := 1000000) (disch := first | omega | assumption | exact Nat.le_of_ble_eq_true rfl) only [go_sem, ↓mwp_block, simprocAttr])
    refine st_append1 (bytes := 56) (x := o) Odr.enc_len (by omega) Odr.enc_plain rfl rfl S.p3.p1 (by omega) (by omega) ?_
    clear S F
    intro v h S
    obtain ⟨A', c', rfl⟩ := S.sl
    rw [List.length_append, hzl] at S ⊢
    (try simp (maxSteps := 1000000) (disch := first | omega | assumption | exact Nat.le_of_ble_eq_true rfl) only [go_sem, ↓mwp_block, simprocAttr, e5])
    refine st_store S.p3 rfl rfl (Nat.le_of_ble_eq_true rfl) ?_
    clear S
    intro h S
    (try simp only [splice_cons, splice_nil, List.set_cons_zero, List.set_cons_succ, Nat.zero_add, Nat.reduceAdd, List.cons_append, List.nil_append] at S)
    (try simp (maxSteps := 1000000) (disch := first | omega | assumption | exact Nat.le_of_ble_eq_true rfl) only [go_sem, ↓mwp_block, simprocAttr, e20])
    refine hJ _ _ ?_ ?_
    · (try simp (maxSteps := 1000000) (disch := first | omega | assumption | exact Nat.le_of_ble_eq_true rfl) only [go_sem, ↓mwp_block, simprocAttr, e2, e4, e5, e7, e19])
      refine ⟨k + 1, A', c', zs ++ [o], rfl, by omega, ?_, ?_⟩
      · rw [hsucc, List.map_append, hzs, List.map_cons, ho]; rfl
      · rw [hsucc]
        have S := S.p3.p2.perm (.cons _ (.cons _ (.cons _ (List.perm_middle (l₁ := _ :: _ :: zs.map oRow)).symm)))
        rw [List.map_append, List.append_assoc]
        exact S
    · (try simp (maxSteps := 1000000) (disch := first | omega | assumption | exact Nat.le_of_ble_eq_true rfl) only [go_sem, ↓mwp_block, simprocAttr, e20])
      omega
  obtain rfl : k = n := by omega
  have hO1 : (decO b).1 = zs.map Odr.pu := by rw [hdO, hzs]
  have hO2 : (decO b).2 = (pMany pOdr k q5).2 := by rw [hdO]
  have hql := pMany_q pOdr_q q5 k
  have hll := pMany_len pOdr q5 k
  have hzl : zs.length = k := by have := congrArg List.length hzs; rw [List.length_map] at this; omega
  have hlines : ∀ o ∈ zs, o.ls.length < 256 := fun o ho => by
    have : o.pu ∈ (pMany pOdr k q5).1 := by rw [← hzs]; exact List.mem_map_of_mem ho
    exact pOdrs_lines q5 k _ this
  rw [← hO2] at S hql
  clear hJ hdO hll hzs hO2
  have hdS : decS b = pMany pSup (vl 1 (decO b).2).toNat (stp 1 (decO b).2) := rfl
  have hn2 := vl1 (decO b).2
  have hs2 := stp_len 1 (decO b).2
  (try simp (maxSteps := 1000000) (disch := first | omega | assumption | exact Nat.le_of_ble_eq_true rfl) only [go_sem, ↓mwp_block, simprocAttr, e4])
  refine call_intro (rd8 S.p1 (by omega)) ?_
  clear S
  rintro _ h ⟨rfl, S⟩
  obtain ⟨m, hm⟩ : ∃ m : Nat, vl 1 (decO b).2 = m := ⟨(vl 1 (decO b).2).toNat, by omega⟩
  rw [hm] at hdS hn2 ⊢
  rw [Int.toNat_natCast] at hdS
  have hq6l : (stp 1 (decO b).2).1.length < 1000000 := by omega
  generalize stp 1 (decO b).2 = q6 at *
  have S : St h0 h (ownA Sup.enc 3 57 (.slice none 0 0) [] :: _) := S.nilS
  (try simp (maxSteps := 1000000) (disch := first | omega | assumption | exact Nat.le_of_ble_eq_true rfl) only [go_sem, ↓mwp_block, simprocAttr])
  refine loop_intro (fun ρ' h' => ρ' 2 = .pointer (some ⟨p, 0, none⟩) ∧ ρ' 4 = .pointer (some ⟨i, 0, none⟩) ∧ ρ' 5 = .pointer (some ⟨d, 0, none⟩) ∧ ρ' 7 = .int .i64 e ∧ ρ' 31 = .int .i64 m ∧ ∃ (j : Nat) (A2 : Option Addr) (c2 : Nat), ρ' 32 = .int .i64 j ∧ j ≤ m ∧
    St h0 h' (ownA Sup.enc 3 57 (.slice A2 j c2) (pMany pSup j q6).1 :: inA i (pMany pSup j q6).2.1 (pMany pSup j q6).2.2 :: ownA Odr.enc 5 40 (.slice A1 k c1) zs :: cellA d [.slice A1 k c1, .slice A2 j c2, .slice Ap ps.length cp] 26 :: ownA Pol.enc 16 78 (.slice Ap ps.length cp) ps :: cellA p [.slice none 0 0, .slice none 0 0, .slice none 0 0] 26 :: (zs.map oRow ++ l))) (fun ρ' _ => m - (iv (ρ' 32)).toNat) ?_ ?_
  · (try simp (maxSteps := 1000000) (disch := first | omega | assumption | exact Nat.le_of_ble_eq_true rfl) only [go_sem, ↓mwp_block, simprocAttr, e2, e5, e7])
    exact ⟨e4, 0, none, 0, rfl, by omega, S⟩
  clear S e2 e4 e5 e7 e19 e20
  rintro ρ' h J hJ ⟨e2, e4, e5, e7, e31, j, A2, c2, e32, hj, S⟩
  (try simp (maxSteps := 1000000) (disch := first | omega | assumption | exact Nat.le_of_ble_eq_true rfl) only [go_sem, ↓mwp_block, simprocAttr, e31, e32])
  refine cond_dec (fun hlt2 => ?_) (fun hlt2 => ?_)
  · have hjm : j < m := by omega
    have hsucc : pMany pSup (j + 1) q6 = ((pMany pSup j q6).1 ++ [(pSup (pMany pSup j q6).2).1], (pSup (pMany pSup j q6).2).2) := rfl
    have hll := pMany_len pSup q6 j
    have hql2 := pMany_q pSup_q q6 j
    generalize pMany pSup j q6 = R at *
    obtain ⟨xs, r⟩ := R
    simp only at hsucc hll hql2 S
    have b1 := stp_len 2 r
    have b2 := stp_len 8 (stp 2 r)
    have hrd : rd1 h (.pointer (some ⟨d, 1, none⟩)) = some (.slice A2 j c2) := st_rd1 S.p3
    have rx : ∀ K t, readT (fun h' => rd1 h' (.pointer (some ⟨d, 1, none⟩)) = some (.slice A2 j c2)) (fun h' => rd1 h' (.pointer (some ⟨d, 1, none⟩))) K t = K (.slice A2 j c2) := fun K t => readT_v _ hrd
    (try simp (maxSteps := 1000000) (disch := first | omega | assumption | exact Nat.le_of_ble_eq_true rfl) only [go_sem, ↓mwp_block, simprocAttr])
    refine draw_inv (fun h' => rd1 h' (.pointer (some ⟨d, 1, none⟩)) = some (.slice A2 j c2)) hrd ?_
    (try simp (maxSteps := 1000000) (disch := first | omega | assumption | exact Nat.le_of_ble_eq_true rfl) only [go_sem, ↓mwp_block, simprocAttr, e4, e5, rx])
    refine call_intro (rd16 S.p1 (by omega)) ?_
    clear S hrd rx
    rintro _ h ⟨rfl, S⟩
    refine ⟨st_rd1 S.p3, ?_⟩
    (try simp (maxSteps := 1000000) (disch := first | omega | assumption | exact Nat.le_of_ble_eq_true rfl) only [go_sem, ↓mwp_block, simprocAttr])
    refine call_intro (rd64 S (by omega)) ?_
    clear S
    rintro _ h ⟨rfl, S⟩
    refine ⟨st_rd1 S.p3, ?_⟩
    (try simp (maxSteps := 1000000) (disch := first | omega | assumption | exact Nat.le_of_ble_eq_true rfl) only [go_sem, ↓mwp_block, simprocAttr])
    refine call_intro (rd8 S (by omega)) ?_
    clear S
    rintro _ h ⟨rfl, S⟩
    refine ⟨st_rd1 S.p3, ?_⟩
    (try simp (maxSteps := 1000000) (disch := first | omega | assumption | exact Nat.le_of_ble_eq_true rfl) only [go_sem, ↓mwp_block, simprocAttr])
    (refine st_alloc S ?_; clear S; intro g h S; (try simp only [splice_cons, splice_nil, List.set_cons_zero, List.set_cons_succ, Nat.zero_add, Nat.reduceAdd, List.cons_append, List.nil_append] at S); ((try clear F); have F := S.all; (try simp only [all_cons, all_nil, says_cell, and_true] at F)))
    refine ⟨st_rd1 S.p4, ?_⟩
    (try simp (maxSteps := 1000000) (disch := first | omega | assumption | exact Nat.le_of_ble_eq_true rfl) only [go_sem, ↓mwp_block, simprocAttr])
    refine st_append1 (bytes := 24) (x := (pSup r).1) Sup.enc_len (by omega) Sup.enc_plain rfl rfl S.p2.p1 (by omega) (by omega) ?_
    clear S F
    intro v h S
    obtain ⟨A', c', rfl⟩ := S.sl
    rw [List.length_append, hll] at S ⊢
    (try simp (maxSteps := 1000000) (disch := first | omega | assumption | exact Nat.le_of_ble_eq_true rfl) only [go_sem, ↓mwp_block, simprocAttr, e5])
    refine st_store S.p3 rfl rfl (Nat.le_of_ble_eq_true rfl) ?_
    clear S
    intro h S
    (try simp only [splice_cons, splice_nil, List.set_cons_zero, List.set_cons_succ, Nat.zero_add, Nat.reduceAdd, List.cons_append, List.nil_append] at S)
    (try simp (maxSteps := 1000000) (disch := first | omega | assumption | exact Nat.le_of_ble_eq_true rfl) only [go_sem, ↓mwp_block, simprocAttr, e32])
    refine hJ _ _ ?_ ?_
    · (try simp (maxSteps := 1000000) (disch := first | omega | assumption | exact Nat.le_of_ble_eq_true rfl) only [go_sem, ↓mwp_block, simprocAttr, e2, e4, e5, e7, e31])
      refine ⟨j + 1, A', c', rfl, by omega, ?_⟩
      rw [hsucc]
      exact S.p3.p3.p3
    · (try simp (maxSteps := 1000000) (disch := first | omega | assumption | exact Nat.le_of_ble_eq_true rfl) only [go_sem, ↓mwp_block, simprocAttr, e32])
      omega
  obtain rfl : j = m := by omega
  clear hJ
  rw [← hdS] at S
  have hll := pMany_len pSup q6 j
  rw [← hdS] at hll
  have hTps : RightT ps ∧ encT ps = (bytesR (b, false)).1 → ∀ C', Reads b C' → C'.ps = ps := fun ⟨hR, he⟩ C' hC' => encT_inj (fun x hx => Pol.right_fits (hC'.1.1.2 x hx)) (fun x hx => Pol.right_fits (hR.2 x hx)) (hC'.2.1.trans he.symm)
  rcases hT with ⟨rfl, hR, he⟩ | ⟨rfl, hn⟩
  case inr =>
    (try simp (maxSteps := 1000000) (disch := first | omega | assumption | exact Nat.le_of_ble_eq_true rfl) only [go_sem, ↓mwp_block, simprocAttr, e7, e2])
    refine st_store S.p5 rfl rfl (Nat.le_of_ble_eq_true rfl) ?_
    clear S
    intro h S
    (try simp only [splice_cons, splice_nil, List.set_cons_zero, List.set_cons_succ, Nat.zero_add, Nat.reduceAdd, List.cons_append, List.nil_append] at S)
    ((try clear F); have F := S.all; (try simp only [all_cons, all_nil, says_cell, and_true] at F))
    (try simp (maxSteps := 1000000) (disch := first | omega | assumption | exact Nat.le_of_ble_eq_true rfl) only [go_sem, ↓mwp_block, simprocAttr, e2, F])
    refine hK _ _ (.inr ⟨rfl, fun ⟨C', hC'⟩ => hn ⟨C'.ps, hC'.1.1, hC'.2.1⟩, ?_⟩)
    have S := S.tl.tl.tl.tl.tl.tl
    exact St.dropL S
  (try simp (maxSteps := 1000000) (disch := first | omega | assumption | exact Nat.le_of_ble_eq_true rfl) only [go_sem, ↓mwp_block, simprocAttr, e7, e4])
  refine call_intro (Done_ok S.p1) ?_
  rintro _ _ ⟨rfl, rfl⟩
  by_cases hd : (decS b).2.2 = false ∧ (decS b).2.1 = []
  case neg =>
    rw [dcd_false hd]
    (try simp (maxSteps := 1000000) (disch := first | omega | assumption | exact Nat.le_of_ble_eq_true rfl) only [go_sem, ↓mwp_block, simprocAttr, e2])
    refine st_store S.p5 rfl rfl (Nat.le_of_ble_eq_true rfl) ?_
    clear S
    intro h S
    (try simp only [splice_cons, splice_nil, List.set_cons_zero, List.set_cons_succ, Nat.zero_add, Nat.reduceAdd, List.cons_append, List.nil_append] at S)
    ((try clear F); have F := S.all; (try simp only [all_cons, all_nil, says_cell, and_true] at F))
    (try simp (maxSteps := 1000000) (disch := first | omega | assumption | exact Nat.le_of_ble_eq_true rfl) only [go_sem, ↓mwp_block, simprocAttr, e2, F])
    refine hK _ _ (.inr ⟨rfl, fun ⟨C', hC'⟩ => hd (by rw [hC'.2.2.2.2]; exact ⟨rfl, rfl⟩), ?_⟩)
    exact St.dropL S.tl.tl.tl.tl.tl.tl
  rw [dcd_true hd]
  have hdone : (decS b).2 = ([], false) := Prod.ext hd.2 hd.1
  obtain ⟨C, hC⟩ : ∃ C : Cfg, C = ⟨A1, c1, zs, A2, c2, (decS b).1, Ap, cp, ps⟩ := ⟨_, rfl⟩
  have hCe : C.enc = [.slice A1 k c1, .slice A2 j c2, .slice Ap ps.length cp] := by rw [hC, Cfg.enc, hzl, hll]
  have hr : ∀ {h' : Heap} {L : List HP}, St h0 h' (ownA Sup.enc 3 57 (.slice A2 j c2) (decS b).1 :: inA i (decS b).2.1 (decS b).2.2 :: ownA Odr.enc 5 40 (.slice A1 k c1) zs :: cellA d [.slice A1 k c1, .slice A2 j c2, .slice Ap ps.length cp] 26 :: ownA Pol.enc 16 78 (.slice Ap ps.length cp) ps :: cellA p [.slice none 0 0, .slice none 0 0, .slice none 0 0] 26 :: (zs.map oRow ++ l)) → C.rd h' ∧ C.wf := fun S => by
    subst hC
    have R := rows_arr (L := [_, _, _, _, _, _]) S
    obtain ⟨_, x1, x2⟩ := S.cap
    obtain ⟨_, y1, y2⟩ := S.p2.cap
    obtain ⟨_, z1, z2⟩ := S.p4.cap
    exact ⟨⟨S.p2.arr Odr.enc_len, fun o ho => (R o ho).1, S.arr Sup.enc_len, S.p4.arr Pol.enc_len⟩, ⟨by simp only [hzl]; exact y1, y2, by simp only [hll]; exact x1, x2, z1, z2, fun o ho => (R o ho).2⟩⟩
  have hp16 := hR.1
  have l4 : ∀ o ∈ C.os, o.ls.length < 1000000 := fun o ho => by subst hC; have := hlines o ho; omega
  have l1 : C.os.length < 1000000 := by rw [hC]; simp only; omega
  have l2 : C.ss.length < 1000000 := by rw [hC]; simp only; omega
  have l3 : C.ps.length < 1000000 := by rw [hC]; simp only; omega
  have hpu : ∀ C', Reads b C' → C'.pu = C.pu := fun C' hC' => by
    have e1 := hTps ⟨hR, he⟩ C' hC'
    rw [hC]
    simp only [Cfg.pu, e1, hC'.2.2.1, hC'.2.2.2.1, hO1]
  have hRight := ORight_ok C (hr (h' := _) (L := l) S).1 (hr (L := l) S).2 l1 l2 l3 l4
  rw [hCe] at hRight
  ((try clear F); have F := S.all; (try simp only [all_cons, all_nil, says_cell, and_true] at F))
  (try simp (maxSteps := 1000000) (disch := first | omega | assumption | exact Nat.le_of_ble_eq_true rfl) only [go_sem, ↓mwp_block, simprocAttr, e5, F])
  refine call_intro hRight ?_
  clear hRight
  rintro _ h ⟨rfl, hf⟩
  have S := S.frame hf
  by_cases hok : okCfg C
  case neg =>
    rw [dcd_false hok]
    (try simp (maxSteps := 1000000) (disch := first | omega | assumption | exact Nat.le_of_ble_eq_true rfl) only [go_sem, ↓mwp_block, simprocAttr, e2])
    refine st_store S.p5 rfl rfl (Nat.le_of_ble_eq_true rfl) ?_
    clear S F
    intro h S
    (try simp only [splice_cons, splice_nil, List.set_cons_zero, List.set_cons_succ, Nat.zero_add, Nat.reduceAdd, List.cons_append, List.nil_append] at S)
    ((try clear F); have F := S.all; (try simp only [all_cons, all_nil, says_cell, and_true] at F))
    (try simp (maxSteps := 1000000) (disch := first | omega | assumption | exact Nat.le_of_ble_eq_true rfl) only [go_sem, ↓mwp_block, simprocAttr, e2, F])
    refine hK _ _ (.inr ⟨rfl, fun ⟨C', hC'⟩ => hok (okCfg_pu (hpu C' hC') hC'.1), ?_⟩)
    exact St.dropL S.tl.tl.tl.tl.tl.tl
  rw [dcd_true hok]
  ((try clear F); have F := S.all; (try simp only [all_cons, all_nil, says_cell, and_true] at F))
  (try simp (maxSteps := 1000000) (disch := first | omega | assumption | exact Nat.le_of_ble_eq_true rfl) only [go_sem, ↓mwp_block, simprocAttr, e5, F, e2])
  refine st_store S.p5 rfl rfl (Nat.le_of_ble_eq_true rfl) ?_
  have hwf := (hr (L := l) S).2
  clear S F
  intro h S
  (try simp only [splice_cons, splice_nil, List.set_cons_zero, List.set_cons_succ, Nat.zero_add, Nat.reduceAdd, List.cons_append, List.nil_append] at S)
  ((try clear F); have F := S.all; (try simp only [all_cons, all_nil, says_cell, and_true] at F))
  (try simp (maxSteps := 1000000) (disch := first | omega | assumption | exact Nat.le_of_ble_eq_true rfl) only [go_sem, ↓mwp_block, simprocAttr, e2, F])
  refine hK _ _ (.inl ⟨C, by rw [hCe], hwf, ⟨hok, by rw [hC]; exact he, by rw [hC]; exact hO1.symm, by rw [hC], hdone⟩, ?_⟩)
  have S := S.tl.d1.p1.p2.tl
  rw [hC]
  simp only [hzl, hll]
  exact S
end
end Go.Proofs.Ytblalmgahfbalaa.MX
