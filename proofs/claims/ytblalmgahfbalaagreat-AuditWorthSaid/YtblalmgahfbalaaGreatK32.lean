/- Texts in one file: Sg3, Rm4. -/
import Derived.Test.YtblalmgahfbalaaGreatK28
import Derived.Test.YtblalmgahfbalaaGreatK24
import Derived.Test.YtblalmgahfbalaaGreatK18

/- The saga: New. -/
namespace Go.Proofs.YtblalmgahfbalaaGreat.MX
open Go Go.Proofs
set_option linter.unusedSimpArgs false
set_option linter.unusedVariables false
set_option maxHeartbeats 8000000
def atOf (u : Unt) : Int := if u.ord < 0 then 3 else 0
noncomputable def sagNew (C : Cfg) : Sag := ⟨stkOf ((unitsAll C).map Unt.sku) ((unitsAll C).map atOf), ⟨0, 0, 0, 0, 0⟩, [], [], 1, [], 0⟩
theorem map_set {U : List Unt} (f : Unt → Int) {i : Nat} (hi : i < U.length) : ((U.take i).map f ++ List.replicate (U.length - i) 0).set i (f U[i]) = (U.take (i + 1)).map f ++ List.replicate (U.length - (i + 1)) 0 := by
  rw [List.set_append_right _ _ (by rw [List.length_map, List.length_take]; omega), List.length_map, List.length_take, Nat.min_eq_left (by omega), Nat.sub_self, show U.length - i = U.length - (i + 1) + 1 by omega, List.replicate_succ, List.set_cons_zero, List.take_succ_eq_append_getElem hi, List.map_append, List.append_assoc]
  rfl
theorem map_len {U : List Unt} (f : Unt → Int) {i : Nat} (hi : i ≤ U.length) : ((U.take i).map f ++ List.replicate (U.length - i) (0 : Int)).length = U.length := by
  rw [List.length_append, List.length_map, List.length_take, List.length_replicate]; omega
section
variable {h0 h : Heap} {l : List HP}
theorem skus_ok {A : Option Addr} {c : Nat} {U : List Unt} (S : St h0 h l) (ha : ∀ h', St h0 h' l → Arr Unt.enc 4 h' A U) (hl : U.length < 1000000) :
    CallsH Tryz.prog 28 [.slice A U.length c] h fun v h' => St h0 h' (ownA zEnc 1 3 v (U.map Unt.sku) :: l) := by
  (refine enterK c_saga_skus (Nat.le_of_ble_eq_true rfl) fun K hK => ?_; (try simp (maxSteps := 1000000) (disch := first | omega | assumption | exact Nat.le_of_ble_eq_true rfl) only [go_sem, ↓mwp_block, simprocAttr, ir_saga_skus]))
  refine st_make (0 : Int) zEnc_len rfl S (by omega) (by omega) ?_
  clear S
  intro w h S
  obtain ⟨B, d, rfl⟩ := S.sl
  rw [List.length_replicate] at S ⊢
  (try simp (maxSteps := 1000000) (disch := first | omega | assumption | exact Nat.le_of_ble_eq_true rfl) only [go_sem, ↓mwp_block, simprocAttr])
  refine loop_intro (fun ρ h' => ρ 3 = .slice B U.length d ∧ ρ 9 = .slice A U.length c ∧ ρ 10 = .int .i64 U.length ∧ ∃ i : Nat, ρ 11 = .int .i64 i ∧ i ≤ U.length ∧
    St h0 h' (ownA zEnc 1 3 (.slice B U.length d) ((U.take i).map Unt.sku ++ List.replicate (U.length - i) 0) :: l)) (fun ρ _ => U.length - (iv (ρ 11)).toNat) ?_ ?_
  · (try simp (maxSteps := 1000000) (disch := first | omega | assumption | exact Nat.le_of_ble_eq_true rfl) only [go_sem, ↓mwp_block, simprocAttr])
    exact ⟨0, rfl, by omega, S⟩
  clear S
  rintro ρ h J hJ ⟨e3, e9, e10, i, e11, hi, S⟩
  (try simp (maxSteps := 1000000) (disch := first | omega | assumption | exact Nat.le_of_ble_eq_true rfl) only [go_sem, ↓mwp_block, simprocAttr, e10, e11])
  refine cond_dec (fun hlt => ?_) (fun hlt => ?_)
  · have hil : i < U.length := by omega
    obtain ⟨b1, o1, rfl, q1⟩ := (ha _ S.tl).at hil
    have hset := map_set Unt.sku hil
    have hlen := map_len Unt.sku hi
    generalize U[i] = x at *
    (try simp (maxSteps := 1000000) (disch := first | omega | assumption | exact Nat.le_of_ble_eq_true rfl) only [go_sem, ↓mwp_block, simprocAttr, e9, e11, q1])
    (refine st_alloc S ?_; clear S; intro q h S; (try simp only [splice_cons, splice_nil, List.set_cons_zero, List.set_cons_succ, Nat.zero_add, Nat.reduceAdd, List.cons_append, List.nil_append] at S); ((try clear F); have F := S.all; (try simp only [all_cons, all_nil, says_cell, and_true] at F)))
    (try simp (maxSteps := 1000000) (disch := first | omega | assumption | exact Nat.le_of_ble_eq_true rfl) only [go_sem, ↓mwp_block, simprocAttr, F, Unt.enc])
    (refine st_store (by first | exact S | exact S.p1 | exact S.p2 | exact S.p3 | exact S.p4 | exact S.p5 | exact S.p6 | exact S.p7 | exact S.p8 | exact S.p9 | exact S.p10 | exact S.p11) (by rfl) (by rfl) (Nat.le_of_ble_eq_true rfl) ?_; clear S; intro h S; (try simp only [splice_cons, splice_nil, List.set_cons_zero, List.set_cons_succ, Nat.zero_add, Nat.reduceAdd, List.cons_append, List.nil_append] at S); ((try clear F); have F := S.all; (try simp only [all_cons, all_nil, says_cell, and_true] at F)))
    obtain ⟨b, rfl⟩ := S.p1.ownAt (by omega)
    (try simp (maxSteps := 1000000) (disch := first | omega | assumption | exact Nat.le_of_ble_eq_true rfl) only [go_sem, ↓mwp_block, simprocAttr, e3, e11, F])
    refine st_setOwn zEnc_len (i := i) (x := x.sku) S.p1 (by omega) (by rw [Nat.mul_one]; try rfl) rfl rfl rfl ?_
    clear S F q1
    intro h S
    rw [hset] at S
    (try simp (maxSteps := 1000000) (disch := first | omega | assumption | exact Nat.le_of_ble_eq_true rfl) only [go_sem, ↓mwp_block, simprocAttr, e11])
    refine hJ _ _ ?_ ?_
    · (try simp (maxSteps := 1000000) (disch := first | omega | assumption | exact Nat.le_of_ble_eq_true rfl) only [go_sem, ↓mwp_block, simprocAttr, e3, e9, e10])
      exact ⟨i + 1, rfl, by omega, S.d1⟩
    · (try simp (maxSteps := 1000000) (disch := first | omega | assumption | exact Nat.le_of_ble_eq_true rfl) only [go_sem, ↓mwp_block, simprocAttr, e11])
      omega
  obtain rfl : i = U.length := by omega
  rw [Nat.sub_self, List.replicate_zero, List.append_nil, List.take_length] at S
  (try simp (maxSteps := 1000000) (disch := first | omega | assumption | exact Nat.le_of_ble_eq_true rfl) only [go_sem, ↓mwp_block, simprocAttr, e3])
  exact hK _ _ S
theorem NewS_ok (C : Cfg) (r : ∀ h', St h0 h' l → C.rd h') (w : C.wf) (l1 : C.os.length < 1000000) (l2 : C.ss.length < 1000000) (l3 : C.ps.length < 1000000) (l4 : ∀ o ∈ C.os, o.ls.length < 1000000) (S : St h0 h l) :
    CallsH Tryz.prog 12 [.agg C.enc.toArray] h fun v h' => (¬ okCfg C ∧ v = .tuple #[.pointer none, .int .i64 1] ∧ St h0 h' l) ∨
      (okCfg C ∧ ∃ p D u, v = .tuple #[.pointer (some ⟨p, 0, none⟩), .int .i64 0] ∧ D.wf ∧ D.pu = C.pu ∧ St h0 h' (sagaA p D u (sagNew C) :: stcA D u (unitsAll C) :: l)) := by
  (refine enterK c_saga_New (Nat.le_of_ble_eq_true rfl) fun K hK => ?_; (try simp (maxSteps := 1000000) (disch := first | omega | assumption | exact Nat.le_of_ble_eq_true rfl) only [go_sem, ↓mwp_block, simprocAttr, ir_saga_New]))
  (refine st_alloc S ?_; clear S; intro g h S; (try simp only [splice_cons, splice_nil, List.set_cons_zero, List.set_cons_succ, Nat.zero_add, Nat.reduceAdd, List.cons_append, List.nil_append] at S); ((try clear F); have F := S.all; (try simp only [all_cons, all_nil, says_cell, and_true] at F)))
  (try simp (maxSteps := 1000000) (disch := first | omega | assumption | exact Nat.le_of_ble_eq_true rfl) only [go_sem, ↓mwp_block, simprocAttr, F, Cfg.enc])
  rw [show [Value.slice C.A1 C.os.length C.c1, .slice C.A2 C.ss.length C.c2, .slice C.A3 C.ps.length C.c3] = C.enc from rfl]
  refine call_intro (OUnits_ok C (fun h' S => r h' S.tl) w l1 l2 l3 l4 S) ?_
  clear S F
  rintro _ h (⟨hok, rfl, S⟩ | ⟨hok, u, rfl, S⟩)
  · (try simp (maxSteps := 1000000) (disch := first | omega | assumption | exact Nat.le_of_ble_eq_true rfl) only [go_sem, ↓mwp_block, simprocAttr])
    exact hK _ _ (.inl ⟨hok, rfl, S.tl⟩)
  obtain ⟨A, c, rfl⟩ := S.sl
  obtain ⟨_, hul⟩ := unitsAll_len hok
  obtain ⟨U, hU⟩ : ∃ U, U = unitsAll C := ⟨_, rfl⟩
  rw [← hU] at S hul ⊢
  (try simp (maxSteps := 1000000) (disch := first | omega | assumption | exact Nat.le_of_ble_eq_true rfl) only [go_sem, ↓mwp_block, simprocAttr])
  refine st_make (0 : Int) zEnc_len rfl S (by omega) (by omega) ?_
  clear S
  intro w' h S
  obtain ⟨B, d, rfl⟩ := S.sl
  rw [List.length_replicate] at S ⊢
  (try simp (maxSteps := 1000000) (disch := first | omega | assumption | exact Nat.le_of_ble_eq_true rfl) only [go_sem, ↓mwp_block, simprocAttr])
  refine loop_intro (fun ρ h' => ρ 1 = .pointer (some ⟨g, 0, none⟩) ∧ ρ 4 = .slice A U.length c ∧ ρ 6 = .slice B U.length d ∧ ρ 20 = .slice A U.length c ∧ ρ 21 = .int .i64 U.length ∧ ∃ i : Nat, ρ 22 = .int .i64 i ∧ i ≤ U.length ∧
    St h0 h' (ownA zEnc 1 3 (.slice B U.length d) ((U.take i).map atOf ++ List.replicate (U.length - i) 0) :: ownA Unt.enc 4 76 (.slice A U.length c) U :: cellA g C.enc 26 :: l)) (fun ρ _ => U.length - (iv (ρ 22)).toNat) ?_ ?_
  · (try simp (maxSteps := 1000000) (disch := first | omega | assumption | exact Nat.le_of_ble_eq_true rfl) only [go_sem, ↓mwp_block, simprocAttr])
    exact ⟨0, rfl, by omega, S⟩
  clear S
  rintro ρ h J hJ ⟨e1, e4, e6, e20, e21, i, e22, hi, S⟩
  (try simp (maxSteps := 1000000) (disch := first | omega | assumption | exact Nat.le_of_ble_eq_true rfl) only [go_sem, ↓mwp_block, simprocAttr, e21, e22])
  refine cond_dec (fun hlt => ?_) (fun hlt => ?_)
  · have hil : i < U.length := by omega
    obtain ⟨b1, o1, rfl, q1⟩ := (S.p1.arr Unt.enc_len).at hil
    have hset := map_set atOf hil
    have hlen := map_len atOf hi
    have hsame : U[i].ord < 0 ∨ ((U.take i).map atOf ++ List.replicate (U.length - i) 0) = (U.take (i + 1)).map atOf ++ List.replicate (U.length - (i + 1)) 0 := by
      by_cases hx : U[i].ord < 0
      · exact .inl hx
      · refine .inr ?_
        have : atOf U[i] = 0 := if_neg hx
        rw [List.take_succ_eq_append_getElem hil, List.map_append, List.append_assoc, show U.length - i = U.length - (i + 1) + 1 by omega, List.replicate_succ]
        simp [this]
    generalize U[i] = x at *
    (try simp (maxSteps := 1000000) (disch := first | omega | assumption | exact Nat.le_of_ble_eq_true rfl) only [go_sem, ↓mwp_block, simprocAttr, e20, e22, q1])
    (refine st_alloc S ?_; clear S; intro q h S; (try simp only [splice_cons, splice_nil, List.set_cons_zero, List.set_cons_succ, Nat.zero_add, Nat.reduceAdd, List.cons_append, List.nil_append] at S); ((try clear F); have F := S.all; (try simp only [all_cons, all_nil, says_cell, and_true] at F)))
    (try simp (maxSteps := 1000000) (disch := first | omega | assumption | exact Nat.le_of_ble_eq_true rfl) only [go_sem, ↓mwp_block, simprocAttr, F, Unt.enc])
    (refine st_store (by first | exact S | exact S.p1 | exact S.p2 | exact S.p3 | exact S.p4 | exact S.p5 | exact S.p6 | exact S.p7 | exact S.p8 | exact S.p9 | exact S.p10 | exact S.p11) (by rfl) (by rfl) (Nat.le_of_ble_eq_true rfl) ?_; clear S; intro h S; (try simp only [splice_cons, splice_nil, List.set_cons_zero, List.set_cons_succ, Nat.zero_add, Nat.reduceAdd, List.cons_append, List.nil_append] at S); ((try clear F); have F := S.all; (try simp only [all_cons, all_nil, says_cell, and_true] at F)))
    by_cases hx : x.ord < 0
    · obtain ⟨b, rfl⟩ := S.p1.ownAt (by omega)
      (try simp (maxSteps := 1000000) (disch := first | omega | assumption | exact Nat.le_of_ble_eq_true rfl) only [go_sem, ↓mwp_block, simprocAttr, e6, e22, F, hx])
      refine st_setOwn zEnc_len (i := i) (x := 3) S.p1 (by omega) (by rw [Nat.mul_one]; try rfl) rfl rfl rfl ?_
      clear S F q1
      intro h S
      rw [show (3 : Int) = atOf x by rw [atOf, if_pos hx], hset] at S
      (try simp (maxSteps := 1000000) (disch := first | omega | assumption | exact Nat.le_of_ble_eq_true rfl) only [go_sem, ↓mwp_block, simprocAttr, e22])
      refine hJ _ _ ?_ ?_
      · (try simp (maxSteps := 1000000) (disch := first | omega | assumption | exact Nat.le_of_ble_eq_true rfl) only [go_sem, ↓mwp_block, simprocAttr, e1, e4, e6, e20, e21])
        exact ⟨i + 1, rfl, by omega, S.d1⟩
      · (try simp (maxSteps := 1000000) (disch := first | omega | assumption | exact Nat.le_of_ble_eq_true rfl) only [go_sem, ↓mwp_block, simprocAttr, e22])
        omega
    · rw [hsame.resolve_left hx] at S
      (try simp (maxSteps := 1000000) (disch := first | omega | assumption | exact Nat.le_of_ble_eq_true rfl) only [go_sem, ↓mwp_block, simprocAttr, e22, F, hx])
      refine hJ _ _ ?_ ?_
      · (try simp (maxSteps := 1000000) (disch := first | omega | assumption | exact Nat.le_of_ble_eq_true rfl) only [go_sem, ↓mwp_block, simprocAttr, e1, e4, e6, e20, e21])
        exact ⟨i + 1, rfl, by omega, S.tl⟩
      · (try simp (maxSteps := 1000000) (disch := first | omega | assumption | exact Nat.le_of_ble_eq_true rfl) only [go_sem, ↓mwp_block, simprocAttr, e22])
        omega
  obtain rfl : i = U.length := by omega
  rw [Nat.sub_self, List.replicate_zero, List.append_nil, List.take_length] at S
  clear hJ e20 e21 e22
  (try simp (maxSteps := 1000000) (disch := first | omega | assumption | exact Nat.le_of_ble_eq_true rfl) only [go_sem, ↓mwp_block, simprocAttr, e4])
  refine call_intro (skus_ok S (fun h' S => S.p1.arr Unt.enc_len) (by omega)) ?_
  clear S
  intro v h S
  obtain ⟨Ak, ck, rfl⟩ := S.sl
  (try simp (maxSteps := 1000000) (disch := first | omega | assumption | exact Nat.le_of_ble_eq_true rfl) only [go_sem, ↓mwp_block, simprocAttr, e6])
  have hn : U.length = (U.map atOf).length := (List.length_map ..).symm
  have hn2 : (U.map Unt.sku).length = U.length := List.length_map ..
  have hcall := NewK_ok (A := Ak) (B := B) (c := ck) (d := d) (sk := U.map Unt.sku) (at_ := U.map atOf) S (fun h' S => S.arr zEnc_len) (fun h' S => by have S1 := S.p1; rw [hn] at S1; exact S1.arr zEnc_len) (by rw [hn2]; omega) (by rw [← hn]; omega)
  rw [← hn] at hcall
  refine call_intro hcall ?_
  clear S hcall
  have hokA : okAt (U.map atOf) := fun q hq => by
    obtain ⟨x, _, rfl⟩ := List.mem_map.1 hq
    unfold atOf
    split <;> omega
  rintro _ h (⟨hbad, _⟩ | ⟨_, k, rfl, S⟩)
  · exact (hbad ⟨by rw [hn2], by rw [hn2]; exact hul, hokA⟩).elim
  have S := S.d1.d1
  ((try clear F); have F := S.all; (try simp only [all_cons, all_nil, says_cell, and_true] at F))
  (try simp (maxSteps := 1000000) (disch := first | omega | assumption | exact Nat.le_of_ble_eq_true rfl) only [go_sem, ↓mwp_block, simprocAttr, e1, F])
  refine call_intro (CfgClone_ok C (fun h' S => r h' S.tl.tl.tl) hok S) ?_
  clear S F
  rintro _ h ⟨D, rfl, hw, hp, S⟩
  (try simp (maxSteps := 1000000) (disch := first | omega | assumption | exact Nat.le_of_ble_eq_true rfl) only [go_sem, ↓mwp_block, simprocAttr, e4, Cfg.enc])
  (refine st_alloc S ?_; clear S; intro t h S; (try simp only [splice_cons, splice_nil, List.set_cons_zero, List.set_cons_succ, Nat.zero_add, Nat.reduceAdd, List.cons_append, List.nil_append] at S); ((try clear F); have F := S.all; (try simp only [all_cons, all_nil, says_cell, and_true] at F)))
  have S := tim_new S
  (try simp (maxSteps := 1000000) (disch := first | omega | assumption | exact Nat.le_of_ble_eq_true rfl) only [go_sem, ↓mwp_block, simprocAttr])
  refine call_intro (NewO_ok S) ?_
  clear S F
  rintro _ h ⟨o, rfl, S⟩
  (try simp (maxSteps := 1000000) (disch := first | omega | assumption | exact Nat.le_of_ble_eq_true rfl) only [go_sem, ↓mwp_block, simprocAttr, Cfg.enc])
  (refine st_alloc S ?_; clear S; intro p h S; (try simp only [splice_cons, splice_nil, List.set_cons_zero, List.set_cons_succ, Nat.zero_add, Nat.reduceAdd, List.cons_append, List.nil_append] at S); ((try clear F); have F := S.all; (try simp only [all_cons, all_nil, says_cell, and_true] at F)))
  (try simp (maxSteps := 1000000) (disch := first | omega | assumption | exact Nat.le_of_ble_eq_true rfl) only [go_sem, ↓mwp_block, simprocAttr])
  refine hK _ _ (.inr ⟨hok, p, D, .slice A U.length c, rfl, hw, hp, ?_⟩)
  have S : St h0 h (rmasA (.slice none 0 0) [] :: _) := St.rmas.2 ⟨[], rfl, S.nilS⟩
  have S := St.star.2 (S.p7.tl.p6.p5)
  rw [hU] at S ⊢
  have S : St h0 h (stcA D (.slice A (unitsAll C).length c) (unitsAll C) :: rmasA (.slice none 0 0) (sagNew C).R :: cellA p (sagE D (.slice A (unitsAll C).length c) k t o (.slice none 0 0) (.slice none 0 0) (sagNew C)) 94 :: obxA o (sagNew C).key (sagNew C).O :: timA t (sagNew C).T :: stockA k (sagNew C).K :: l) := S
  exact St.saga.2 ⟨k, t, o, .slice none 0 0, by (refine St.perm S ?_; repeat (with_reducible first | exact List.Perm.refl _ | refine pm0 ?_ | refine pm1 ?_ | refine pm2 ?_ | refine pm3 ?_ | refine pm4 ?_ | refine pm5 ?_ | refine pm6 ?_ | refine pm7 ?_ | refine pm8 ?_ | refine pm9 ?_ | refine pm10 ?_ | refine pm11 ?_ | refine pm12 ?_)) ⟩
end
end Go.Proofs.YtblalmgahfbalaaGreat.MX

/- Returns: the document's word on right ones. -/
namespace Go.Proofs.YtblalmgahfbalaaGreat.MX
open Go Go.Proofs
set_option linter.unusedSimpArgs false
set_option linter.unusedVariables false
set_option maxHeartbeats 8000000
theorem Right14_ok {h0 : Heap} (x : RetV) (ha : Arr zEnc 1 h0 x.A x.r.us) (hb : Arr zEnc 1 h0 x.B x.r.gs) (l1 : x.r.us.length < 1000000) (l2 : x.r.gs.length < 1000000) :
    CallsH Tryz.prog 9 [.agg x.enc.toArray] h0 fun v h' => v = .bool (dcd x.r.right) ∧ Fr h0 h' [] := by
  have S := St.nil h0
  have ha' : ∀ {h' : Heap} {l : List HP}, St h0 h' l → Arr zEnc 1 h' x.A x.r.us := fun S => ha.fr S.fr (by simp)
  have hb' : ∀ {h' : Heap} {l : List HP}, St h0 h' l → Arr zEnc 1 h' x.B x.r.gs := fun S => hb.fr S.fr (by simp)
  have hU0 : ¬ okUnits x.r.us x.r.gs → ¬ x.r.right := fun hn h => hn h.2.2.2.2.2.2.2.1
  (refine enterK c_recouplaw14_Right (Nat.le_of_ble_eq_true rfl) fun K hK => ?_; (try simp (maxSteps := 1000000) (disch := first | omega | assumption | exact Nat.le_of_ble_eq_true rfl) only [go_sem, ↓mwp_block, simprocAttr, ir_recouplaw14_Right]))
  (refine st_alloc S ?_; clear S; intro b h S; (try simp only [splice_cons, splice_nil, List.set_cons_zero, List.set_cons_succ, Nat.zero_add, Nat.reduceAdd, List.cons_append, List.nil_append] at S); ((try clear F); have F := S.all; (try simp only [all_cons, all_nil, says_cell, and_true] at F)))
  (try simp (maxSteps := 1000000) (disch := first | omega | assumption | exact Nat.le_of_ble_eq_true rfl) only [go_sem, ↓mwp_block, simprocAttr, F, RetV.enc])
  refine call_intro (between14_ok _ _ _ _) ?_
  rintro _ _ ⟨rfl, rfl⟩
  by_cases n1 : btw x.r.us.length 1 200
  case neg =>
    rw [dcd_false n1]
    (try simp (maxSteps := 1000000) (disch := first | omega | assumption | exact Nat.le_of_ble_eq_true rfl) only [go_sem, ↓mwp_block, simprocAttr])
    exact hK _ _ ⟨by rw [dcd_false (hU0 fun h => n1 h.1)], S.fr⟩
  rw [dcd_true n1]
  by_cases n2 : (x.r.gs.length : Int) = x.r.us.length
  case neg =>
    (try simp (maxSteps := 1000000) (disch := first | omega | assumption | exact Nat.le_of_ble_eq_true rfl) only [go_sem, ↓mwp_block, simprocAttr, F, RetV.enc, n2])
    exact hK _ _ ⟨by rw [dcd_false (hU0 fun h => by have := h.2.1; omega)], S.fr⟩
  (try simp (maxSteps := 1000000) (disch := first | omega | assumption | exact Nat.le_of_ble_eq_true rfl) only [go_sem, ↓mwp_block, simprocAttr, F, RetV.enc, n2])
  refine loop_intro (fun ρ h' => ρ 1 = .pointer (some ⟨b, 0, none⟩) ∧ ρ 20 = .int .i64 x.r.us.length ∧ ∃ i : Nat, ρ 21 = .int .i64 i ∧ i ≤ x.r.us.length ∧ (∀ k, k < i → unitOk x.r.us x.r.gs k) ∧ St h0 h' [cellA b x.enc 29]) (fun ρ _ => x.r.us.length - (iv (ρ 21)).toNat) ?_ ?_
  · (try simp (maxSteps := 1000000) (disch := first | omega | assumption | exact Nat.le_of_ble_eq_true rfl) only [go_sem, ↓mwp_block, simprocAttr])
    exact ⟨0, rfl, by omega, fun k hk => absurd hk (by omega), S⟩
  clear S F
  rintro ρ h J hJ ⟨e1, e20, i, e21, hi, hok, S⟩
  (try simp (maxSteps := 1000000) (disch := first | omega | assumption | exact Nat.le_of_ble_eq_true rfl) only [go_sem, ↓mwp_block, simprocAttr, e20, e21])
  refine cond_dec (fun hlt => ?_) (fun hlt => ?_)
  · have hil : i < x.r.us.length := by omega
    obtain ⟨b1, o1, hA1, q1⟩ := (ha' S).at hil
    obtain ⟨b2, o2, hA2, q2⟩ := (hb' S).at (i := i) (by omega)
    have q1 := rd1_part0 q1 (by omega)
    have q2 := rd1_part0 q2 (by omega)
    simp only [zEnc, List.getElem?_cons_zero, Nat.mul_one] at q1 q2
    rw [← getD_at] at q1 q2
    have hbad : ¬ unitOk x.r.us x.r.gs i → ¬ x.r.right := fun hn => hU0 fun h => hn (h.2.2 i hil)
    have hgo := fun hx => unitOk_snoc hok (i := i) hx
    have hU : unitOk x.r.us x.r.gs i ↔ (btw (x.r.us.getD i 0) 0 199 ∧ (0 < i → x.r.us.getD (i - 1) 0 < x.r.us.getD i 0) ∧ btw (x.r.gs.getD i 0) (-1) 4) := Iff.rfl
    ((try clear F); have F := S.all; (try simp only [all_cons, all_nil, says_cell, and_true] at F))
    (try simp (maxSteps := 1000000) (disch := first | omega | assumption | exact Nat.le_of_ble_eq_true rfl) only [go_sem, ↓mwp_block, simprocAttr])
    refine draw_eq ?_
    (try simp (maxSteps := 1000000) (disch := first | omega | assumption | exact Nat.le_of_ble_eq_true rfl) only [go_sem, ↓mwp_block, simprocAttr, e1, e21, F, RetV.enc, hA1, q1, Nat.mul_one])
    refine call_intro (between14_ok _ _ _ _) ?_
    rintro _ _ ⟨rfl, rfl⟩
    refine ⟨rfl, ?_⟩
    by_cases c1 : btw (x.r.us.getD i 0) 0 199
    case neg =>
      rw [dcd_false c1]
      (try simp (maxSteps := 1000000) (disch := first | omega | assumption | exact Nat.le_of_ble_eq_true rfl) only [go_sem, ↓mwp_block, simprocAttr])
      exact hK _ _ ⟨by rw [dcd_false (hbad fun h => c1 (hU.1 h).1)], S.fr⟩
    rw [dcd_true c1]
    by_cases c2 : 0 < i
    · obtain ⟨j, rfl⟩ : ∃ j, i = j + 1 := ⟨i - 1, by omega⟩
      obtain ⟨b3, o3, hA3, q3⟩ := (ha' S).at (i := j) (by omega)
      rw [hA1] at hA3
      cases hA3
      have q3 := rd1_part0 q3 (by omega)
      simp only [zEnc, List.getElem?_cons_zero, Nat.mul_one] at q3
      rw [← getD_at] at q3
      have hj1 : ((j + 1 : Nat) : Int) - 1 = (j : Int) := by omega
      have hj0 : (0 : Int) < ((j + 1 : Nat) : Int) := by omega
      rw [Nat.add_sub_cancel] at hU
      by_cases c3 : x.r.us.getD (j + 1) 0 ≤ x.r.us.getD j 0
      · (try simp (maxSteps := 1000000) (disch := first | omega | assumption | exact Nat.le_of_ble_eq_true rfl) only [go_sem, ↓mwp_block, simprocAttr, e1, e21, F, RetV.enc, hA1, hj0, hj1, q1, q3, c3, Nat.mul_one])
        exact hK _ _ ⟨by rw [dcd_false (hbad fun h => by have := (hU.1 h).2.1 (by omega); omega)], S.fr⟩
      (try simp (maxSteps := 1000000) (disch := first | omega | assumption | exact Nat.le_of_ble_eq_true rfl) only [go_sem, ↓mwp_block, simprocAttr, e1, e21, F, RetV.enc, hA1, hA2, hj0, hj1, q1, q2, q3, c3, Nat.mul_one])
      refine call_intro (between14_ok _ _ _ _) ?_
      rintro _ _ ⟨rfl, rfl⟩
      by_cases c4 : btw (x.r.gs.getD (j + 1) 0) (-1) 4
      case neg =>
        rw [dcd_false c4]
        (try simp (maxSteps := 1000000) (disch := first | omega | assumption | exact Nat.le_of_ble_eq_true rfl) only [go_sem, ↓mwp_block, simprocAttr])
        exact hK _ _ ⟨by rw [dcd_false (hbad fun h => c4 (hU.1 h).2.2)], S.fr⟩
      rw [dcd_true c4]
      (try simp (maxSteps := 1000000) (disch := first | omega | assumption | exact Nat.le_of_ble_eq_true rfl) only [go_sem, ↓mwp_block, simprocAttr, e21])
      refine hJ _ _ ?_ ?_
      · (try simp (maxSteps := 1000000) (disch := first | omega | assumption | exact Nat.le_of_ble_eq_true rfl) only [go_sem, ↓mwp_block, simprocAttr, e1, e20])
        exact ⟨j + 1 + 1, rfl, by omega, hgo (hU.2 ⟨c1, fun _ => by omega, c4⟩), S⟩
      · (try simp (maxSteps := 1000000) (disch := first | omega | assumption | exact Nat.le_of_ble_eq_true rfl) only [go_sem, ↓mwp_block, simprocAttr, e21])
        omega
    · obtain rfl : i = 0 := by omega
      rw [Nat.add_zero] at q1 q2
      (try simp (maxSteps := 1000000) (disch := first | omega | assumption | exact Nat.le_of_ble_eq_true rfl) only [go_sem, ↓mwp_block, simprocAttr, e1, e21, F, RetV.enc, hA2, q2, Nat.mul_one])
      refine call_intro (between14_ok _ _ _ _) ?_
      rintro _ _ ⟨rfl, rfl⟩
      by_cases c4 : btw (x.r.gs.getD 0 0) (-1) 4
      case neg =>
        rw [dcd_false c4]
        (try simp (maxSteps := 1000000) (disch := first | omega | assumption | exact Nat.le_of_ble_eq_true rfl) only [go_sem, ↓mwp_block, simprocAttr])
        exact hK _ _ ⟨by rw [dcd_false (hbad fun h => c4 (hU.1 h).2.2)], S.fr⟩
      rw [dcd_true c4]
      (try simp (maxSteps := 1000000) (disch := first | omega | assumption | exact Nat.le_of_ble_eq_true rfl) only [go_sem, ↓mwp_block, simprocAttr, e21])
      refine hJ _ _ ?_ ?_
      · (try simp (maxSteps := 1000000) (disch := first | omega | assumption | exact Nat.le_of_ble_eq_true rfl) only [go_sem, ↓mwp_block, simprocAttr, e1, e20])
        exact ⟨1, rfl, by omega, hgo (hU.2 ⟨c1, fun h => absurd h (by omega), c4⟩), S⟩
      · (try simp (maxSteps := 1000000) (disch := first | omega | assumption | exact Nat.le_of_ble_eq_true rfl) only [go_sem, ↓mwp_block, simprocAttr, e21])
        omega
  obtain rfl : i = x.r.us.length := by omega
  have p7 : okUnits x.r.us x.r.gs := ⟨n1, by omega, hok⟩
  clear hJ
  ((try clear F); have F := S.all; (try simp only [all_cons, all_nil, says_cell, and_true] at F))
  (try simp (maxSteps := 1000000) (disch := first | omega | assumption | exact Nat.le_of_ble_eq_true rfl) only [go_sem, ↓mwp_block, simprocAttr, e1, F, RetV.enc])
  refine call_intro (between14_ok _ _ _ _) ?_
  rintro _ _ ⟨rfl, rfl⟩
  by_cases p0 : btw x.r.num 1 100
  case neg =>
    rw [dcd_false p0]
    (try simp (maxSteps := 1000000) (disch := first | omega | assumption | exact Nat.le_of_ble_eq_true rfl) only [go_sem, ↓mwp_block, simprocAttr, F, RetV.enc])
    exact hK _ _ ⟨by rw [dcd_false fun h => p0 h.1], S.fr⟩
  rw [dcd_true p0]
  (try simp (maxSteps := 1000000) (disch := first | omega | assumption | exact Nat.le_of_ble_eq_true rfl) only [go_sem, ↓mwp_block, simprocAttr, e1, F, RetV.enc])
  refine call_intro (between14_ok _ _ _ _) ?_
  rintro _ _ ⟨rfl, rfl⟩
  by_cases p1 : btw x.r.ord 0 19
  case neg =>
    rw [dcd_false p1]
    (try simp (maxSteps := 1000000) (disch := first | omega | assumption | exact Nat.le_of_ble_eq_true rfl) only [go_sem, ↓mwp_block, simprocAttr, F, RetV.enc])
    exact hK _ _ ⟨by rw [dcd_false fun h => p1 h.2.1], S.fr⟩
  rw [dcd_true p1]
  (try simp (maxSteps := 1000000) (disch := first | omega | assumption | exact Nat.le_of_ble_eq_true rfl) only [go_sem, ↓mwp_block, simprocAttr, e1, F, RetV.enc])
  refine call_intro (between14_ok _ _ _ _) ?_
  rintro _ _ ⟨rfl, rfl⟩
  by_cases p2 : btw x.r.rea 0 3
  case neg =>
    rw [dcd_false p2]
    (try simp (maxSteps := 1000000) (disch := first | omega | assumption | exact Nat.le_of_ble_eq_true rfl) only [go_sem, ↓mwp_block, simprocAttr, F, RetV.enc])
    exact hK _ _ ⟨by rw [dcd_false fun h => p2 h.2.2.1], S.fr⟩
  rw [dcd_true p2]
  (try simp (maxSteps := 1000000) (disch := first | omega | assumption | exact Nat.le_of_ble_eq_true rfl) only [go_sem, ↓mwp_block, simprocAttr, e1, F, RetV.enc])
  refine call_intro (between14_ok _ _ _ _) ?_
  rintro _ _ ⟨rfl, rfl⟩
  by_cases p3 : btw x.r.want 0 1000
  case neg =>
    rw [dcd_false p3]
    (try simp (maxSteps := 1000000) (disch := first | omega | assumption | exact Nat.le_of_ble_eq_true rfl) only [go_sem, ↓mwp_block, simprocAttr, F, RetV.enc])
    exact hK _ _ ⟨by rw [dcd_false fun h => p3 h.2.2.2.1], S.fr⟩
  rw [dcd_true p3]
  (try simp (maxSteps := 1000000) (disch := first | omega | assumption | exact Nat.le_of_ble_eq_true rfl) only [go_sem, ↓mwp_block, simprocAttr, e1, F, RetV.enc])
  refine call_intro (between14_ok _ _ _ _) ?_
  rintro _ _ ⟨rfl, rfl⟩
  by_cases p4 : btw x.r.res (-1) 199
  case neg =>
    rw [dcd_false p4]
    (try simp (maxSteps := 1000000) (disch := first | omega | assumption | exact Nat.le_of_ble_eq_true rfl) only [go_sem, ↓mwp_block, simprocAttr, F, RetV.enc])
    exact hK _ _ ⟨by rw [dcd_false fun h => p4 h.2.2.2.2.1], S.fr⟩
  rw [dcd_true p4]
  (try simp (maxSteps := 1000000) (disch := first | omega | assumption | exact Nat.le_of_ble_eq_true rfl) only [go_sem, ↓mwp_block, simprocAttr, e1, F, RetV.enc])
  refine call_intro (between14_ok _ _ _ _) ?_
  rintro _ _ ⟨rfl, rfl⟩
  by_cases p5 : btw x.r.state 1 9
  case neg =>
    rw [dcd_false p5]
    (try simp (maxSteps := 1000000) (disch := first | omega | assumption | exact Nat.le_of_ble_eq_true rfl) only [go_sem, ↓mwp_block, simprocAttr, F, RetV.enc])
    exact hK _ _ ⟨by rw [dcd_false fun h => p5 h.2.2.2.2.2.1], S.fr⟩
  rw [dcd_true p5]
  (try simp (maxSteps := 1000000) (disch := first | omega | assumption | exact Nat.le_of_ble_eq_true rfl) only [go_sem, ↓mwp_block, simprocAttr, e1, F, RetV.enc])
  refine call_intro (between14_ok _ _ _ _) ?_
  rintro _ _ ⟨rfl, rfl⟩
  by_cases p6 : btw x.r.day 0 100000
  case neg =>
    rw [dcd_false p6]
    (try simp (maxSteps := 1000000) (disch := first | omega | assumption | exact Nat.le_of_ble_eq_true rfl) only [go_sem, ↓mwp_block, simprocAttr, F, RetV.enc])
    exact hK _ _ ⟨by rw [dcd_false fun h => p6 h.2.2.2.2.2.2.1], S.fr⟩
  rw [dcd_true p6]
  (try simp (maxSteps := 1000000) (disch := first | omega | assumption | exact Nat.le_of_ble_eq_true rfl) only [go_sem, ↓mwp_block, simprocAttr, e1, F, RetV.enc])
  refine call_intro (cents14_ok _ _) ?_
  rintro _ _ ⟨rfl, rfl⟩
  by_cases m0 : okMon x.r.worth
  case neg =>
    rw [dcd_false m0]
    (try simp (maxSteps := 1000000) (disch := first | omega | assumption | exact Nat.le_of_ble_eq_true rfl) only [go_sem, ↓mwp_block, simprocAttr, F, RetV.enc])
    exact hK _ _ ⟨by rw [dcd_false fun h => m0 h.2.2.2.2.2.2.2.2.1], S.fr⟩
  rw [dcd_true m0]
  (try simp (maxSteps := 1000000) (disch := first | omega | assumption | exact Nat.le_of_ble_eq_true rfl) only [go_sem, ↓mwp_block, simprocAttr, e1, F, RetV.enc])
  refine call_intro (cents14_ok _ _) ?_
  rintro _ _ ⟨rfl, rfl⟩
  by_cases m1 : okMon x.r.paid
  case neg =>
    rw [dcd_false m1]
    (try simp (maxSteps := 1000000) (disch := first | omega | assumption | exact Nat.le_of_ble_eq_true rfl) only [go_sem, ↓mwp_block, simprocAttr, F, RetV.enc])
    exact hK _ _ ⟨by rw [dcd_false fun h => m1 h.2.2.2.2.2.2.2.2.2.1], S.fr⟩
  rw [dcd_true m1]
  (try simp (maxSteps := 1000000) (disch := first | omega | assumption | exact Nat.le_of_ble_eq_true rfl) only [go_sem, ↓mwp_block, simprocAttr, e1, F, RetV.enc])
  refine call_intro (cents14_ok _ _) ?_
  rintro _ _ ⟨rfl, rfl⟩
  by_cases m2 : okMon x.r.credd
  case neg =>
    rw [dcd_false m2]
    (try simp (maxSteps := 1000000) (disch := first | omega | assumption | exact Nat.le_of_ble_eq_true rfl) only [go_sem, ↓mwp_block, simprocAttr, F, RetV.enc])
    exact hK _ _ ⟨by rw [dcd_false fun h => m2 h.2.2.2.2.2.2.2.2.2.2.1], S.fr⟩
  rw [dcd_true m2]
  (try simp (maxSteps := 1000000) (disch := first | omega | assumption | exact Nat.le_of_ble_eq_true rfl) only [go_sem, ↓mwp_block, simprocAttr, e1, F, RetV.enc])
  refine call_intro (cents14_ok _ _) ?_
  rintro _ _ ⟨rfl, rfl⟩
  by_cases m3 : okMon x.r.given
  case neg =>
    rw [dcd_false m3]
    (try simp (maxSteps := 1000000) (disch := first | omega | assumption | exact Nat.le_of_ble_eq_true rfl) only [go_sem, ↓mwp_block, simprocAttr, F, RetV.enc])
    exact hK _ _ ⟨by rw [dcd_false fun h => m3 h.2.2.2.2.2.2.2.2.2.2.2], S.fr⟩
  rw [dcd_true m3]
  (try simp (maxSteps := 1000000) (disch := first | omega | assumption | exact Nat.le_of_ble_eq_true rfl) only [go_sem, ↓mwp_block, simprocAttr, e1, F, RetV.enc])
  exact hK _ _ ⟨by rw [dcd_true ⟨p0, p1, p2, p3, p4, p5, p6, p7, m0, m1, m2, m3⟩], S.fr⟩
end Go.Proofs.YtblalmgahfbalaaGreat.MX
