/- An act on the program's disk (law01.do). -/
import Derived.Test.YtackopkhelochaaDr7
import Derived.Test.YtackopkhelochaaDk4
namespace Go.Proofs.Ytackopkhelochaa.MX
open Go Go.Proofs
set_option linter.unusedSimpArgs false
set_option linter.unusedVariables false

def DAct.ks (x : DAct) : List Int := [x.k0, x.k1, x.k2, x.k3, x.k4, x.k5, x.k6, x.k7]
/-- What an act makes of a disk, and its answer. -/
def actD (D : Dk) (x : DAct) (bs : List UInt8) : Dk × Int :=
  if x.kind = 0 then appendD D x.a bs
  else if x.kind = 1 then syncD D x.a
  else if x.kind = 2 then cutD D x.a x.b
  else if x.kind = 3 then renameD D x.a x.b
  else if x.kind = 4 then removeD D x.a
  else if x.kind = 5 then fuseD D x.b
  else (restartD D x.ks, 0)
set_option maxHeartbeats 2000000 in
theorem do_ok (x : DAct) {h0 h : Heap} {l : List HP} {d : Nat} {D : Dk} {bs : List UInt8} (S : St h0 h (diskA d D :: l)) (ok : D.ok) (hdn : x.dn = bs.length) (ha : ∀ h', St h0 h' l → Arr bEnc 1 h' x.dA bs) (hc : bs.length ≤ x.dc) (hb : bs.length < 9223372036854775808) (hk : ∀ k ∈ x.ks, I64 k) :
    CallsH Try.prog 44 [.pointer (some ⟨d, 0, none⟩), .agg x.enc.toArray] h fun v h' => v = .int .i64 (actD D x bs).2 ∧ St h0 h' (diskA d (actD D x bs).1 :: l) := by
  (refine enterK c_recouplaw01_do (Nat.le_of_ble_eq_true rfl) fun K hK => ?_; (try simp (maxSteps := 1000000) (disch := first | omega | assumption | exact Nat.le_of_ble_eq_true rfl) only [go_sem, ↓mwp_block, simprocAttr, ir_recouplaw01_do]))
  (refine st_alloc S ?_; clear S; intro q h S; (try simp only [splice_cons, splice_nil, List.set_cons_zero, List.set_cons_succ, Nat.zero_add, Nat.reduceAdd, List.cons_append, List.nil_append] at S); ((try clear F); have F := S.all; (try simp only [all_cons, all_nil, says_cell, and_true] at F)))
  (try simp (maxSteps := 1000000) (disch := first | omega | assumption | exact Nat.le_of_ble_eq_true rfl) only [go_sem, ↓mwp_block, simprocAttr, F, DAct.enc])
  by_cases e0 : x.kind = 0
  · (try simp (maxSteps := 1000000) (disch := first | omega | assumption | exact Nat.le_of_ble_eq_true rfl) only [go_sem, ↓mwp_block, simprocAttr, F, DAct.enc, hdn])
    refine call_intro (Append_ok x.a S.p1 ok (fun h' s => ha h' s.tl) hc hb) ?_
    rintro _ h ⟨rfl, S⟩
    (try simp (maxSteps := 1000000) (disch := first | omega | assumption | exact Nat.le_of_ble_eq_true rfl) only [go_sem, ↓mwp_block, simprocAttr])
    refine hK _ _ ?_
    simp only [actD, if_pos e0]
    exact ⟨trivial, S.d1⟩
  by_cases e1 : x.kind = 1
  · (try simp (maxSteps := 1000000) (disch := first | omega | assumption | exact Nat.le_of_ble_eq_true rfl) only [go_sem, ↓mwp_block, simprocAttr, F, DAct.enc])
    refine call_intro (Sync_ok x.a S.p1 ok) ?_
    rintro _ h ⟨rfl, S⟩
    (try simp (maxSteps := 1000000) (disch := first | omega | assumption | exact Nat.le_of_ble_eq_true rfl) only [go_sem, ↓mwp_block, simprocAttr])
    refine hK _ _ ?_
    simp only [actD, if_neg e0, if_pos e1]
    exact ⟨trivial, S.d1⟩
  by_cases e2 : x.kind = 2
  · (try simp (maxSteps := 1000000) (disch := first | omega | assumption | exact Nat.le_of_ble_eq_true rfl) only [go_sem, ↓mwp_block, simprocAttr, F, DAct.enc])
    refine call_intro (Cut_ok x.a x.b S.p1 ok) ?_
    rintro _ h ⟨rfl, S⟩
    (try simp (maxSteps := 1000000) (disch := first | omega | assumption | exact Nat.le_of_ble_eq_true rfl) only [go_sem, ↓mwp_block, simprocAttr])
    refine hK _ _ ?_
    simp only [actD, if_neg e0, if_neg e1, if_pos e2]
    exact ⟨trivial, S.d1⟩
  by_cases e3 : x.kind = 3
  · (try simp (maxSteps := 1000000) (disch := first | omega | assumption | exact Nat.le_of_ble_eq_true rfl) only [go_sem, ↓mwp_block, simprocAttr, F, DAct.enc])
    refine call_intro (Rename_ok x.a x.b S.p1 ok) ?_
    rintro _ h ⟨rfl, S⟩
    (try simp (maxSteps := 1000000) (disch := first | omega | assumption | exact Nat.le_of_ble_eq_true rfl) only [go_sem, ↓mwp_block, simprocAttr])
    refine hK _ _ ?_
    simp only [actD, if_neg e0, if_neg e1, if_neg e2, if_pos e3]
    exact ⟨trivial, S.d1⟩
  by_cases e4 : x.kind = 4
  · (try simp (maxSteps := 1000000) (disch := first | omega | assumption | exact Nat.le_of_ble_eq_true rfl) only [go_sem, ↓mwp_block, simprocAttr, F, DAct.enc])
    refine call_intro (Remove_ok x.a S.p1 ok) ?_
    rintro _ h ⟨rfl, S⟩
    (try simp (maxSteps := 1000000) (disch := first | omega | assumption | exact Nat.le_of_ble_eq_true rfl) only [go_sem, ↓mwp_block, simprocAttr])
    refine hK _ _ ?_
    simp only [actD, if_neg e0, if_neg e1, if_neg e2, if_neg e3, if_pos e4]
    exact ⟨trivial, S.d1⟩
  by_cases e5 : x.kind = 5
  · (try simp (maxSteps := 1000000) (disch := first | omega | assumption | exact Nat.le_of_ble_eq_true rfl) only [go_sem, ↓mwp_block, simprocAttr, F, DAct.enc])
    refine call_intro (Fuse_ok x.b S.p1) ?_
    rintro _ h ⟨rfl, S⟩
    (try simp (maxSteps := 1000000) (disch := first | omega | assumption | exact Nat.le_of_ble_eq_true rfl) only [go_sem, ↓mwp_block, simprocAttr])
    refine hK _ _ ?_
    simp only [actD, if_neg e0, if_neg e1, if_neg e2, if_neg e3, if_neg e4, if_pos e5]
    exact ⟨trivial, S.d1⟩
  (try simp (maxSteps := 1000000) (disch := first | omega | assumption | exact Nat.le_of_ble_eq_true rfl) only [go_sem, ↓mwp_block, simprocAttr, F, DAct.enc])
  refine call_intro (Restart_ok x.ks rfl hk S.p1 ok) ?_
  rintro _ h S
  (try simp (maxSteps := 1000000) (disch := first | omega | assumption | exact Nat.le_of_ble_eq_true rfl) only [go_sem, ↓mwp_block, simprocAttr])
  refine hK _ _ ?_
  simp only [actD, if_neg e0, if_neg e1, if_neg e2, if_neg e3, if_neg e4, if_neg e5]
  exact ⟨trivial, S.d1⟩
end Go.Proofs.Ytackopkhelochaa.MX
