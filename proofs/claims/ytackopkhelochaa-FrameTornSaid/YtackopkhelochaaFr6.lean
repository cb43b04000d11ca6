/- The frames that are told (law03.told). -/
import Derived.Test.YtackopkhelochaaFr5
namespace Go.Proofs.Ytackopkhelochaa.MX
open Go Go.Proofs
set_option linter.unusedSimpArgs false
set_option linter.unusedVariables false
set_option maxRecDepth 100000

/-- A slice of byte slices, all of the call's own. -/
structure Bz where
  A : Option Addr
  c : Nat
  ys : List UInt8
def Bz.enc (z : Bz) : List Value := [.slice z.A z.ys.length z.c]
theorem bz_len (z : Bz) : z.enc.length = 1 := rfl
theorem bz_plain (z : Bz) : plainCells z.enc = true := rfl
def bRow (z : Bz) : HP := ownA bEnc 1 5 (.slice z.A z.ys.length z.c) z.ys
def lsA (s : Value) (xs : List (List UInt8)) : HP := exA fun zs : List Bz => starsA (ownA Bz.enc 1 22 s zs :: pureA (zs.map Bz.ys = xs) :: zs.map bRow)
theorem lsA_open {h0 h : Heap} {l : List HP} {s : Value} {xs : List (List UInt8)} : St h0 h (lsA s xs :: l) ↔ ∃ zs : List Bz, zs.map Bz.ys = xs ∧ St h0 h (ownA Bz.enc 1 22 s zs :: (zs.map bRow ++ l)) := by
  refine St.ex.trans ⟨?_, ?_⟩
  · rintro ⟨zs, S⟩
    have S := St.stars.1 S
    simp only [List.cons_append] at S
    obtain ⟨hp, S⟩ := St.pure.1 S.p1
    exact ⟨zs, hp, S⟩
  · rintro ⟨zs, h1, S⟩
    refine ⟨zs, St.stars.2 ?_⟩
    simp only [List.cons_append]
    exact (St.pure.2 ⟨h1, S⟩).p1
def iEnc (n : Nat) : List Value := [.int .i64 n]
theorem iEnc_len (n : Nat) : (iEnc n).length = 1 := rfl
theorem iEnc_plain (n : Nat) : plainCells (iEnc n) = true := rfl
/-- The places behind the frames. -/
def placesOf (xs : List (List UInt8)) : List Nat := (List.range xs.length).map fun i => endOf (xs.take (i + 1))
theorem placesOf_len (xs : List (List UInt8)) : (placesOf xs).length = xs.length := by simp [placesOf]
theorem placesOf_succ (xs : List (List UInt8)) {i : Nat} (hi : i < xs.length) : placesOf (xs.take (i + 1)) = placesOf (xs.take i) ++ [endOf (xs.take (i + 1))] := by
  have h1 : (xs.take (i + 1)).length = i + 1 := by simp; omega
  have h2 : (xs.take i).length = i := by simp; omega
  simp only [placesOf, h1, h2, List.range_succ, List.map_append, List.map_cons, List.map_nil]
  congr 1
  · apply List.map_congr_left
    intro j hj
    rw [List.mem_range] at hj
    rw [List.take_take, List.take_take, Nat.min_eq_left (by omega), Nat.min_eq_left (by omega)]
  · rw [List.take_take, Nat.min_self]
def tkN {α : Type} (m : Int) (l : List α) : List α := if m < 0 then l else l.take m.toNat
theorem frames_lt (b : List UInt8) : (framesOf b).length ≤ b.length := by
  have h := (framesOf_drop (framesOf b).length b (Nat.le_refl _)).2
  rw [List.take_length] at h
  have : ∀ l : List (List UInt8), l.length ≤ endOf l := by
    intro l
    induction l with
    | nil => exact Nat.le_refl _
    | cons x l ih => simp only [List.length_cons, endOf]; omega
  have := this (framesOf b)
  omega

set_option maxHeartbeats 4000000 in
theorem told_ok (m : Int) (hm : I64 m) {h0 h : Heap} {l : List HP} {A : Option Addr} {c : Nat} {b : List UInt8} (S : St h0 h l) (ha : ∀ h', St h0 h' l → Arr bEnc 1 h' A b) (hc : b.length ≤ c) (hc2 : c < 9223372036854775808) (hl : b.length < 10000000) :
    CallsH Try.prog 35 [.slice A b.length c, .int .i64 m] h fun r h' => ∃ s1 s2, r = .tuple #[s1, s2] ∧ St h0 h' (lsA s1 (tkN m (framesOf b)) :: ownA iEnc 1 3 s2 (placesOf (tkN m (framesOf b))) :: l) := by
  obtain ⟨hm1, hm2⟩ := hm
  have hfl := frames_lt b
  refine enterY c_recouplaw03_told (by kernel_rfl) (Nat.le_of_ble_eq_true rfl) fun K hK => ?_
  (try simp (maxSteps := 1000000) (disch := first | omega | assumption | exact Nat.le_of_ble_eq_true rfl) only [go_sem, ↓mwp_block, simprocAttr, ir_recouplaw03_told])
  (refine st_alloc S ?_; clear S; intro c3 h S; (try simp only [splice_cons, splice_nil, List.set_cons_zero, List.set_cons_succ, Nat.zero_add, Nat.reduceAdd, List.cons_append, List.nil_append] at S); ((try clear F); have F := S.all; (try simp only [all_cons, all_nil, says_cell, and_true] at F)))
  (try simp (maxSteps := 1000000) (disch := first | omega | assumption | exact Nat.le_of_ble_eq_true rfl) only [go_sem, ↓mwp_block, simprocAttr])
  (refine st_alloc S ?_; clear S; intro c6 h S; (try simp only [splice_cons, splice_nil, List.set_cons_zero, List.set_cons_succ, Nat.zero_add, Nat.reduceAdd, List.cons_append, List.nil_append] at S); ((try clear F); have F := S.all; (try simp only [all_cons, all_nil, says_cell, and_true] at F)))
  (try simp (maxSteps := 1000000) (disch := first | omega | assumption | exact Nat.le_of_ble_eq_true rfl) only [go_sem, ↓mwp_block, simprocAttr])
  (refine st_alloc S ?_; clear S; intro c7 h S; (try simp only [splice_cons, splice_nil, List.set_cons_zero, List.set_cons_succ, Nat.zero_add, Nat.reduceAdd, List.cons_append, List.nil_append] at S); ((try clear F); have F := S.all; (try simp only [all_cons, all_nil, says_cell, and_true] at F)))
  (try simp (maxSteps := 1000000) (disch := first | omega | assumption | exact Nat.le_of_ble_eq_true rfl) only [go_sem, ↓mwp_block, simprocAttr])
  refine call_intro (All_ok S) ?_
  rintro _ h ⟨p, rfl, S⟩
  (try simp (maxSteps := 1000000) (disch := first | omega | assumption | exact Nat.le_of_ble_eq_true rfl) only [go_sem, ↓mwp_block, simprocAttr])
  let I : Nat → List HP → Prop := fun i L => (m < 0 ∨ (i : Int) ≤ m) ∧ i ≤ (framesOf b).length ∧ ∃ s1 s2, L = cellA c7 [s2] 57 :: cellA c6 [s1] 45 :: cellA c3 [.int .i64 m] 3 :: lsA s1 ((framesOf b).take i) :: ownA iEnc 1 3 s2 (placesOf ((framesOf b).take i)) :: l
  have S : St h0 h (cellA p [.slice A b.length c] 22 :: cellA c7 [.slice none 0 0] 57 :: cellA c6 [.slice none 0 0] 45 :: cellA c3 [.int .i64 m] 3 :: lsA (.slice none 0 0) [] :: ownA iEnc 1 3 (.slice none 0 0) [] :: l) := by
    have S1 : St h0 h (ownA Bz.enc 1 22 (.slice none 0 0) [] :: ownA iEnc 1 3 (.slice none 0 0) [] :: _) := S.nilS.nilS
    have S2 : St h0 h (lsA (.slice none 0 0) [] :: ownA iEnc 1 3 (.slice none 0 0) [] :: _) := lsA_open.2 ⟨[], rfl, S1⟩
    exact S2.p5.p5.p5.p5
  refine rangeAll (b := b) I (fun id L => id = 0 ∧ ∃ i : Nat, (i : Int) = m ∧ I i L) (g' := .t 11) rfl (by (try simp (maxSteps := 1000000) (disch := first | omega | assumption | exact Nat.le_of_ble_eq_true rfl) only [go_sem, ↓mwp_block, simprocAttr])) S ⟨by omega, by omega, _, _, rfl⟩ hc hc2 hl ?_ rfl (by decide) (by kernel_rfl) (by kernel_rfl) ?_ ?_ ?_
  · rintro i L h' ⟨_, _, s1, s2, rfl⟩ S
    exact ha h' S.tl.tl.tl.tl.tl
  · rintro rec yl Dd i x v L h hx ⟨him, hil, s1, s2, rfl⟩ S
    have hil : i < (framesOf b).length := (List.getElem?_eq_some_iff.1 hx).1
    have hxi : (framesOf b)[i] = x := (List.getElem?_eq_some_iff.1 hx).2
    obtain ⟨B, e, rfl⟩ := S.sl
    refine of_round ?_
    conv => arg 3; reduce
    (try simp (maxSteps := 1000000) (disch := first | omega | assumption | exact Nat.le_of_ble_eq_true rfl) only [go_sem, ↓mwp_block, simprocAttr, setTmps_2])
    refine qA_intro S.p1.obj ?_
    conv => arg 3; reduce
    have S := S.p1.objSet (o' := .loop (rec .busy none))
    obtain ⟨zs, hzs, So⟩ := lsA_open.1 S.p7
    have hzl : zs.length = i := by
      have := congrArg List.length hzs
      simp at this
      omega
    obtain ⟨B1, e1, rfl⟩ := So.sl
    ((try clear F); have F := S.all; (try simp only [all_cons, all_nil, says_cell, and_true] at F))
    (try simp (maxSteps := 1000000) (disch := first | omega | assumption | exact Nat.le_of_ble_eq_true rfl) only [go_sem, ↓mwp_block, simprocAttr, setTmps_2, F, hzl])
    by_cases hq : (i : Int) = m
    · (try simp (maxSteps := 1000000) (disch := first | omega | assumption | exact Nat.le_of_ble_eq_true rfl) only [go_sem, ↓mwp_block, simprocAttr, setTmps_2, F])
      refine ⟨S.obj, .inr ⟨0, _, ⟨rfl, i, hq, him, by omega, .slice B1 zs.length e1, s2, rfl⟩, ?_⟩⟩
      exact S.objSet.d1
    · (try simp (maxSteps := 1000000) (disch := first | omega | assumption | exact Nat.le_of_ble_eq_true rfl) only [go_sem, ↓mwp_block, simprocAttr, setTmps_2, F])
      generalize h.setIfInBounds yl (.loop (rec .busy none)) = h at S
      clear So F
      (refine st_alloc S ?_; clear S; intro q h S; (try simp only [splice_cons, splice_nil, List.set_cons_zero, List.set_cons_succ, Nat.zero_add, Nat.reduceAdd, List.cons_append, List.nil_append] at S); ((try clear F); have F := S.all; (try simp only [all_cons, all_nil, says_cell, and_true] at F)))
      obtain ⟨zs2, hzs2, S⟩ := lsA_open.1 S.p8
      have S := S.perm (List.perm_middle (l₁ := _ :: zs2.map bRow))
      have hz2 : zs2.length = i := by
        have := congrArg List.length hzs2
        simp at this
        omega
      (try simp (maxSteps := 1000000) (disch := first | omega | assumption | exact Nat.le_of_ble_eq_true rfl) only [go_sem, ↓mwp_block, simprocAttr])
      refine st_append1 (bytes := 24) (x := (⟨B, e, x⟩ : Bz)) bz_len (by omega) bz_plain rfl rfl S (by omega) (by omega) ?_
      clear S F
      intro v' h S
      obtain ⟨B2, e2, rfl⟩ := S.sl
      have S := S.perm (List.Perm.cons _ (List.Perm.append_left _ (List.Perm.swap _ _ _)))
      have S : St h0 h (lsA (.slice B2 (zs2 ++ [(⟨B, e, x⟩ : Bz)]).length e2) ((framesOf b).take (i + 1)) :: _) := lsA_open.2 ⟨zs2 ++ [⟨B, e, x⟩], by rw [List.map_append, hzs2, List.take_succ_eq_append_getElem hil, hxi]; rfl, by rw [List.map_append, List.append_assoc]; exact S⟩
      (try simp (maxSteps := 1000000) (disch := first | omega | assumption | exact Nat.le_of_ble_eq_true rfl) only [go_sem, ↓mwp_block, simprocAttr])
      (refine st_store (by first | exact S | exact S.p1 | exact S.p2 | exact S.p3 | exact S.p4 | exact S.p5 | exact S.p6 | exact S.p7 | exact S.p8 | exact S.p9 | exact S.p10 | exact S.p11) (by rfl) (by rfl) (Nat.le_of_ble_eq_true rfl) ?_; clear S; intro h S; (try simp only [splice_cons, splice_nil, List.set_cons_zero, List.set_cons_succ, Nat.zero_add, Nat.reduceAdd, List.cons_append, List.nil_append] at S); ((try clear F); have F := S.all; (try simp only [all_cons, all_nil, says_cell, and_true] at F)))
      obtain ⟨B3, e3, hs2⟩ := S.p7.sl
      rw [placesOf_len, List.length_take, Nat.min_eq_left (by omega)] at hs2
      subst hs2
      have S := S.p7
      (try simp (maxSteps := 1000000) (disch := first | omega | assumption | exact Nat.le_of_ble_eq_true rfl) only [go_sem, ↓mwp_block, simprocAttr, F])
      (refine st_alloc S ?_; clear S; intro q2 h S; (try simp only [splice_cons, splice_nil, List.set_cons_zero, List.set_cons_succ, Nat.zero_add, Nat.reduceAdd, List.cons_append, List.nil_append] at S); ((try clear F); have F := S.all; (try simp only [all_cons, all_nil, says_cell, and_true] at F)))
      (try simp (maxSteps := 1000000) (disch := first | omega | assumption | exact Nat.le_of_ble_eq_true rfl) only [go_sem, ↓mwp_block, simprocAttr])
      refine st_append1 (bytes := 8) (x := endOf ((framesOf b).take (i + 1))) iEnc_len (by omega) iEnc_plain rfl rfl S (by rw [placesOf_len, List.length_take]; omega) (by rw [placesOf_len, List.length_take]; omega) ?_
      clear S F
      intro v2 h S
      rw [← placesOf_succ _ hil] at S
      obtain ⟨B4, e4, rfl⟩ := S.sl
      (try simp (maxSteps := 1000000) (disch := first | omega | assumption | exact Nat.le_of_ble_eq_true rfl) only [go_sem, ↓mwp_block, simprocAttr])
      (refine st_store (by first | exact S | exact S.p1 | exact S.p2 | exact S.p3 | exact S.p4 | exact S.p5 | exact S.p6 | exact S.p7 | exact S.p8 | exact S.p9 | exact S.p10 | exact S.p11) (by rfl) (by rfl) (Nat.le_of_ble_eq_true rfl) ?_; clear S; intro h S; (try simp only [splice_cons, splice_nil, List.set_cons_zero, List.set_cons_succ, Nat.zero_add, Nat.reduceAdd, List.cons_append, List.nil_append] at S); ((try clear F); have F := S.all; (try simp only [all_cons, all_nil, says_cell, and_true] at F)))
      (try simp (maxSteps := 1000000) (disch := first | omega | assumption | exact Nat.le_of_ble_eq_true rfl) only [go_sem, ↓mwp_block, simprocAttr])
      have Sb := S.p4.obj
      have S := S.p4.objSet (o' := .loop (rec .ready none))
      refine ⟨Sb, .inl ⟨_, ⟨by omega, hil, .slice B2 (zs2 ++ [(⟨B, e, x⟩ : Bz)]).length e2, .slice B4 (placesOf ((framesOf b).take (i + 1))).length e4, rfl⟩, ?_⟩⟩
      (refine St.perm S ?_; repeat (with_reducible first | exact List.Perm.refl _ | refine pm0 ?_ | refine pm1 ?_ | refine pm2 ?_ | refine pm3 ?_ | refine pm4 ?_ | refine pm5 ?_ | refine pm6 ?_ | refine pm7 ?_ | refine pm8 ?_ | refine pm9 ?_ | refine pm10 ?_ | refine pm11 ?_ | refine pm12 ?_))
  · rintro Dd h' L' ⟨him, _, s1, s2, rfl⟩ S
    rw [List.take_length] at S
    have ht : tkN m (framesOf b) = framesOf b := by
      unfold tkN
      split
      · rfl
      · exact List.take_of_length_le (by omega)
    ((try clear F); have F := S.all; (try simp only [all_cons, all_nil, says_cell, and_true] at F))
    (try simp (maxSteps := 1000000) (disch := first | omega | assumption | exact Nat.le_of_ble_eq_true rfl) only [go_sem, ↓mwp_block, simprocAttr, F])
    refine draw_eq ?_
    (try simp (maxSteps := 1000000) (disch := first | omega | assumption | exact Nat.le_of_ble_eq_true rfl) only [go_sem, ↓mwp_block, simprocAttr, F])
    refine end1 (P := Try.prog) S ?_
    intro h S
    (try simp (maxSteps := 1000000) (disch := first | omega | assumption | exact Nat.le_of_ble_eq_true rfl) only [go_sem, ↓mwp_block, simprocAttr])
    refine hK _ _ ⟨s1, s2, rfl, ?_⟩
    rw [ht]
    exact S.tl.tl.tl
  · rintro Dd h' id L' ⟨rfl, i, him, _, _, s1, s2, rfl⟩ S
    have ht : tkN m (framesOf b) = (framesOf b).take i := by
      unfold tkN
      rw [if_neg (by omega)]
      congr 1
      omega
    ((try clear F); have F := S.all; (try simp only [all_cons, all_nil, says_cell, and_true] at F))
    (try simp (maxSteps := 1000000) (disch := first | omega | assumption | exact Nat.le_of_ble_eq_true rfl) only [go_sem, ↓mwp_block, simprocAttr, F])
    refine draw_eq ?_
    (try simp (maxSteps := 1000000) (disch := first | omega | assumption | exact Nat.le_of_ble_eq_true rfl) only [go_sem, ↓mwp_block, simprocAttr, F])
    refine end1 (P := Try.prog) S ?_
    intro h S
    (try simp (maxSteps := 1000000) (disch := first | omega | assumption | exact Nat.le_of_ble_eq_true rfl) only [go_sem, ↓mwp_block, simprocAttr])
    refine hK _ _ ⟨s1, s2, rfl, ?_⟩
    rw [ht]
    exact S.tl.tl.tl
end Go.Proofs.Ytackopkhelochaa.MX
