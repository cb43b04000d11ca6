/- Texts in one file: Ds2, Ds3, Lg3, Lg4. -/
import Derived.Test.YtnjjdpeglkiifaaK20
import Derived.Test.YtnjjdpeglkiifaaK17
import Derived.Test.YtnjjdpeglkiifaaK18

/- A disk stays well-formed, whatever is done to it. -/
namespace Go.Proofs.Ytnjjdpeglkiifaa.MX
open Go Go.Proofs
set_option linter.unusedSimpArgs false
set_option linter.unusedVariables false

theorem used_setO {fs : List (Option DF)} {k : Nat} (hk : k < fs.length) (o : Option DF) : used (fs.set k o) + szF fs[k] = used fs + szF o := by
  have e : fs = fs.take k ++ fs[k] :: fs.drop (k + 1) := by rw [← List.drop_eq_getElem_cons hk, List.take_append_drop]
  have h1 : used fs = used (fs.take k) + (szF fs[k] + used (fs.drop (k + 1))) :=
    (congrArg used e).trans (by simp only [used, List.map_append, List.map_cons, List.sum_append, List.sum_cons])
  have h2 : used (fs.set k o) = used (fs.take k) + (szF o + used (fs.drop (k + 1))) := by
    rw [List.set_eq_take_append_cons_drop, if_pos hk]
    simp [used]
  omega
theorem fileOf_n {D : Dk} {n : Int} (h8 : D.fs.length = 8) (hn : 0 ≤ n ∧ n < 8) : fileOf D n = D.fs[n.toNat]'(by omega) := by
  rw [fileOf, if_pos hn, List.getD_eq_getElem?_getD, List.getElem?_eq_getElem (by omega)]
  rfl
theorem ok_setO {D : Dk} {n : Int} {o : Option DF} {fu : Int} {lo : Bool} (ok : D.ok) (hn : 0 ≤ n ∧ n < 8) (hs : ∀ f, o = some f → f.safe ≤ f.bs.length) (hf : -1 ≤ fu ∧ fu < 9223372036854775808) (hr : (szF o : Int) - szF (fileOf D n) ≤ D.cap - used D.fs) : (⟨D.cap, D.fs.set n.toNat o, fu, lo⟩ : Dk).ok := by
  have h8 := ok.len
  have hu := used_setO (fs := D.fs) (k := n.toNat) (by omega) o
  rw [fileOf_n h8 hn] at hr
  refine ⟨by simpa using h8, ok.cap, ?_, hf, fun g hg => ?_⟩
  · show (used (D.fs.set n.toNat o) : Int) ≤ D.cap
    omega
  · rcases List.mem_or_eq_of_mem_set hg with h | h
    · exact ok.safe g h
    · exact hs g h.symm
theorem safe_n {D : Dk} {n : Int} (ok : D.ok) : ((fileOf D n).getD ⟨[], 0⟩).safe ≤ ((fileOf D n).getD ⟨[], 0⟩).bs.length := by
  by_cases hn : 0 ≤ n ∧ n < 8
  · cases hf : fileOf D n with
    | none => simp
    | some f =>
      rw [fileOf_n ok.len hn] at hf
      exact ok.safe f (by rw [← hf]; exact List.getElem_mem _)
  · simp [fileOf, hn]
theorem szF_getD (o : Option DF) : szF o = (o.getD ⟨[], 0⟩).bs.length := by cases o <;> rfl
theorem szS (f : DF) : szF (some f) = f.bs.length := rfl
theorem szN : szF none = 0 := rfl
theorem ok_lost {D : Dk} (ok : D.ok) {lo : Bool} : ({ D with lost := lo } : Dk).ok := ⟨ok.len, ok.cap, ok.room, ok.fuse, ok.safe⟩
theorem append_okn {D : Dk} (ok : D.ok) (n : Int) (ys : List UInt8) : (appendD D n ys).1.ok := by
  unfold appendD
  split
  · exact ok
  · rename_i h1
    have hn := (ask_in (Classical.not_not.1 h1)).2
    have hs := safe_n (n := n) ok
    have hz := szF_getD (fileOf D n)
    split
    · exact ok
    · split
      · refine ok_setO ok hn (fun f he => ?_) ok.fuse ?_
        · cases he
          simp; omega
        · simp only [szS, List.length_append, List.length_take]
          omega
      · refine ok_setO ok hn (fun f he => ?_) (burnF_in ok.fuse) ?_
        · cases he
          simp; omega
        · simp only [szS, List.length_append]
          omega
theorem sync_okn {D : Dk} (ok : D.ok) (n : Int) : (syncD D n).1.ok := by
  unfold syncD
  have hz := szF_getD (fileOf D n)
  have hr := ok.room
  split
  · exact ok
  · rename_i h1
    have hn := (there_in (Classical.not_not.1 h1)).2.2.1
    split
    · exact ok_lost ok
    · refine ok_setO ok hn (fun f he => ?_) (burnF_in ok.fuse) ?_
      · cases he
        exact Nat.le_refl _
      · simp only [szS]
        omega
theorem cut_okn {D : Dk} (ok : D.ok) (n m : Int) : (cutD D n m).1.ok := by
  unfold cutD
  have hz := szF_getD (fileOf D n)
  have hr := ok.room
  split
  · exact ok
  · rename_i h1
    have hn := (there_in (Classical.not_not.1 h1)).2.2.1
    split
    · exact ok
    · split
      · exact ok_lost ok
      · refine ok_setO ok hn (fun f he => ?_) (burnF_in ok.fuse) ?_
        · cases he
          simp; omega
        · simp only [szS, List.length_take]
          omega
theorem remove_okn {D : Dk} (ok : D.ok) (n : Int) : (removeD D n).1.ok := by
  unfold removeD
  have hr := ok.room
  split
  · exact ok
  · rename_i h1
    have hn := (there_in (Classical.not_not.1 h1)).2.2.1
    split
    · exact ok_lost ok
    · refine ok_setO ok hn (fun f he => by cases he) (burnF_in ok.fuse) ?_
      simp only [szN]
      omega
theorem fuse_okn {D : Dk} (ok : D.ok) {n : Int} (hn : I64 n) : (fuseD D n).1.ok := by
  obtain ⟨h1, h2⟩ := hn
  unfold fuseD
  split
  · exact ok
  · split
    · exact ok
    · exact ⟨ok.len, ok.cap, ok.room, ⟨by simp only; omega, by simp only; omega⟩, ok.safe⟩
end Go.Proofs.Ytnjjdpeglkiifaa.MX

/- A disk stays well-formed: rename, any act. -/
namespace Go.Proofs.Ytnjjdpeglkiifaa.MX
open Go Go.Proofs
set_option linter.unusedSimpArgs false
set_option linter.unusedVariables false

theorem rename_okn {D : Dk} (ok : D.ok) (a b : Int) : (renameD D a b).1.ok := by
  have h8 := ok.len
  have hr := ok.room
  unfold renameD
  split
  · exact ok
  rename_i h1
  have ha := (ask_in (Classical.not_not.1 h1)).2
  split
  · exact ok
  rename_i h2
  have hb := (ask_in (Classical.not_not.1 h2)).2
  split
  · exact ok
  split
  · exact ok
  rename_i h3
  split
  · exact ok_lost ok
  have hab : b.toNat ≠ a.toNat := by omega
  have hfa := fileOf_n h8 ha
  have u1 := used_setO (fs := D.fs) (k := b.toNat) (by omega) (fileOf D a)
  have u2 := used_setO (fs := D.fs.set b.toNat (fileOf D a)) (k := a.toNat) (by simp; omega) none
  rw [List.getElem_set_ne hab, ← hfa, szN] at u2
  refine ⟨by simpa using h8, ok.cap, ?_, burnF_in ok.fuse, fun g hg => ?_⟩
  · show (used ((D.fs.set b.toNat (fileOf D a)).set a.toNat none) : Int) ≤ D.cap
    omega
  · rcases List.mem_or_eq_of_mem_set hg with h | h
    · rcases List.mem_or_eq_of_mem_set h with h | h
      · exact ok.safe g h
      · exact ok.safe g (by rw [h, hfa]; exact List.getElem_mem _)
    · cases h
theorem act_okn {D : Dk} (ok : D.ok) (x : DAct) (hx : I64 x.b) (bs : List UInt8) : (actD D x bs).1.ok := by
  unfold actD
  split
  · exact append_okn ok _ _
  split
  · exact sync_okn ok _
  split
  · exact cut_okn ok _ _
  split
  · exact rename_okn ok _ _
  split
  · exact remove_okn ok _
  split
  · exact fuse_okn ok hx
  · exact rest_ok ok rfl
end Go.Proofs.Ytnjjdpeglkiifaa.MX

/- The log: Append, and what is over. -/
namespace Go.Proofs.Ytnjjdpeglkiifaa.MX
open Go Go.Proofs
set_option linter.unusedSimpArgs false
set_option linter.unusedVariables false
set_option maxHeartbeats 8000000
theorem arr_noneB {h : Heap} {A : Option Addr} {xs : List UInt8} (ha : Arr bEnc 1 h A xs) : A = none → xs = [] := by
  rintro rfl
  cases xs with
  | nil => rfl
  | cons x xs =>
    obtain ⟨_, _, h1, _⟩ := ha.at (show 0 < (x :: xs).length by simp)
    cases h1
def overL (L : Lg) (e : Int) : Lg := { L with over := L.over || decide (e = 6) }
def appendL (D : Dk) (L : Lg) (b : List UInt8) : Dk × Lg × Int :=
  if L.over then (D, L, 6)
  else if b.length < 1 ∨ 4000 < b.length then (D, L, 4)
  else if (appendD D L.file (frameOf b)).2 ≠ 0 then ((appendD D L.file (frameOf b)).1, overL L (appendD D L.file (frameOf b)).2, (appendD D L.file (frameOf b)).2)
  else if (syncD (appendD D L.file (frameOf b)).1 L.file).2 ≠ 0 then ((syncD (appendD D L.file (frameOf b)).1 L.file).1, overL L (syncD (appendD D L.file (frameOf b)).1 L.file).2, (syncD (appendD D L.file (frameOf b)).1 L.file).2)
  else ((syncD (appendD D L.file (frameOf b)).1 L.file).1, { L with recs := L.recs ++ [b] }, 0)
section
variable {h0 h : Heap} {l : List HP} {p d : Nat} {D : Dk} {L : Lg}
theorem done_ok (e : Int) (S : St h0 h (logA p d L :: l)) :
    CallsH Try.prog 73 [.pointer (some ⟨p, 0, none⟩), .int .i64 e] h fun v h' => v = .int .i64 e ∧ St h0 h' (logA p d (overL L e) :: l) := by
  obtain ⟨im, rs, S⟩ := logA_open.1 S
  ((try clear F); have F := S.all; (try simp only [all_cons, all_nil, says_cell, and_true] at F))
  (refine enterK c_log_Log_done (Nat.le_of_ble_eq_true rfl) fun K hK => ?_; (try simp (maxSteps := 1000000) (disch := first | omega | assumption | exact Nat.le_of_ble_eq_true rfl) only [go_sem, ↓mwp_block, simprocAttr, ir_log_Log_done]))
  cases ho : L.over with
  | true =>
    rw [ho] at S F
    (try simp (maxSteps := 1000000) (disch := first | omega | assumption | exact Nat.le_of_ble_eq_true rfl) only [go_sem, ↓mwp_block, simprocAttr, F])
    refine st_store S rfl rfl (Nat.le_of_ble_eq_true rfl) ?_
    clear S F
    intro h S
    (try simp only [splice_cons, splice_nil, List.set_cons_zero, List.set_cons_succ, Nat.zero_add, Nat.reduceAdd, List.cons_append, List.nil_append] at S)
    (try simp (maxSteps := 1000000) (disch := first | omega | assumption | exact Nat.le_of_ble_eq_true rfl) only [go_sem, ↓mwp_block, simprocAttr])
    refine hK _ _ ⟨rfl, logA_open.2 ⟨im, rs, ?_⟩⟩
    simp only [overL, ho, Bool.true_or]
    exact S
  | false =>
    rw [ho] at S F
    by_cases h6 : e = 6
    · (try simp (maxSteps := 1000000) (disch := first | omega | assumption | exact Nat.le_of_ble_eq_true rfl) only [go_sem, ↓mwp_block, simprocAttr, F, h6])
      refine st_store S rfl rfl (Nat.le_of_ble_eq_true rfl) ?_
      clear S F
      intro h S
      (try simp only [splice_cons, splice_nil, List.set_cons_zero, List.set_cons_succ, Nat.zero_add, Nat.reduceAdd, List.cons_append, List.nil_append] at S)
      (try simp (maxSteps := 1000000) (disch := first | omega | assumption | exact Nat.le_of_ble_eq_true rfl) only [go_sem, ↓mwp_block, simprocAttr])
      refine hK _ _ ⟨by rw [h6], logA_open.2 ⟨im, rs, ?_⟩⟩
      simp only [overL, ho, Bool.false_or, h6, decide_true]
      exact S
    · (try simp (maxSteps := 1000000) (disch := first | omega | assumption | exact Nat.le_of_ble_eq_true rfl) only [go_sem, ↓mwp_block, simprocAttr, F, h6])
      refine st_store S rfl rfl (Nat.le_of_ble_eq_true rfl) ?_
      clear S F
      intro h S
      (try simp only [splice_cons, splice_nil, List.set_cons_zero, List.set_cons_succ, Nat.zero_add, Nat.reduceAdd, List.cons_append, List.nil_append] at S)
      (try simp (maxSteps := 1000000) (disch := first | omega | assumption | exact Nat.le_of_ble_eq_true rfl) only [go_sem, ↓mwp_block, simprocAttr])
      refine hK _ _ ⟨rfl, logA_open.2 ⟨im, rs, ?_⟩⟩
      simp only [overL, ho, Bool.false_or, h6, decide_false]
      exact S
theorem LenL_ok (S : St h0 h (logA p d L :: l)) : CallsH Try.prog 39 [.pointer (some ⟨p, 0, none⟩)] h fun v h' => v = .int .i64 L.recs.length ∧ h' = h := by
  obtain ⟨im, rs, S⟩ := logA_open.1 S
  obtain ⟨zs, hzs, So⟩ := lsA_open.1 S.p2
  obtain ⟨B, e, rfl⟩ := So.sl
  have hl : zs.length = L.recs.length := by rw [← hzs, List.length_map]
  ((try clear F); have F := S.all; (try simp only [all_cons, all_nil, says_cell, and_true] at F))
  (refine enterK c_log_Log_Len (Nat.le_of_ble_eq_true rfl) fun K hK => ?_; (try simp (maxSteps := 1000000) (disch := first | omega | assumption | exact Nat.le_of_ble_eq_true rfl) only [go_sem, ↓mwp_block, simprocAttr, ir_log_Log_Len]))
  (try simp (maxSteps := 1000000) (disch := first | omega | assumption | exact Nat.le_of_ble_eq_true rfl) only [go_sem, ↓mwp_block, simprocAttr, F, hl])
  exact hK _ _ ⟨rfl, rfl⟩
theorem GenL_ok (S : St h0 h (logA p d L :: l)) : CallsH Try.prog 44 [.pointer (some ⟨p, 0, none⟩)] h fun v h' => v = .int .i64 L.gen ∧ h' = h := by
  obtain ⟨im, rs, S⟩ := logA_open.1 S
  ((try clear F); have F := S.all; (try simp only [all_cons, all_nil, says_cell, and_true] at F))
  (refine enterK c_log_Log_Generation (Nat.le_of_ble_eq_true rfl) fun K hK => ?_; (try simp (maxSteps := 1000000) (disch := first | omega | assumption | exact Nat.le_of_ble_eq_true rfl) only [go_sem, ↓mwp_block, simprocAttr, ir_log_Log_Generation]))
  (try simp (maxSteps := 1000000) (disch := first | omega | assumption | exact Nat.le_of_ble_eq_true rfl) only [go_sem, ↓mwp_block, simprocAttr, F])
  exact hK _ _ ⟨rfl, rfl⟩
theorem OverL_ok (S : St h0 h (logA p d L :: l)) : CallsH Try.prog 56 [.pointer (some ⟨p, 0, none⟩)] h fun v h' => v = .bool L.over ∧ h' = h := by
  obtain ⟨im, rs, S⟩ := logA_open.1 S
  ((try clear F); have F := S.all; (try simp only [all_cons, all_nil, says_cell, and_true] at F))
  (refine enterK c_log_Log_Over (Nat.le_of_ble_eq_true rfl) fun K hK => ?_; (try simp (maxSteps := 1000000) (disch := first | omega | assumption | exact Nat.le_of_ble_eq_true rfl) only [go_sem, ↓mwp_block, simprocAttr, ir_log_Log_Over]))
  (try simp (maxSteps := 1000000) (disch := first | omega | assumption | exact Nat.le_of_ble_eq_true rfl) only [go_sem, ↓mwp_block, simprocAttr, F])
  exact hK _ _ ⟨rfl, rfl⟩
theorem AppendL_ok {A : Option Addr} {c : Nat} {b : List UInt8} (ok : D.ok) (hr : L.recs.length < 1000000) (S : St h0 h (logA p d L :: diskA d D :: l)) (ha : ∀ h', St h0 h' l → Arr bEnc 1 h' A b) (hc : b.length < 1000000) :
    CallsH Try.prog 38 [.pointer (some ⟨p, 0, none⟩), .slice A b.length c] h fun v h' => v = .int .i64 (appendL D L b).2.2 ∧ St h0 h' (logA p d (appendL D L b).2.1 :: diskA d (appendL D L b).1 :: l) := by
  have S0 := S
  obtain ⟨im, rs, S⟩ := logA_open.1 S
  ((try clear F); have F := S.all; (try simp only [all_cons, all_nil, says_cell, and_true] at F))
  cases ho : L.over with
  | true =>
    rw [ho] at F
    (refine enterK c_log_Log_Append (Nat.le_of_ble_eq_true rfl) fun K hK => ?_; (try simp (maxSteps := 1000000) (disch := first | omega | assumption | exact Nat.le_of_ble_eq_true rfl) only [go_sem, ↓mwp_block, simprocAttr, ir_log_Log_Append]))
    (try simp (maxSteps := 1000000) (disch := first | omega | assumption | exact Nat.le_of_ble_eq_true rfl) only [go_sem, ↓mwp_block, simprocAttr, F])
    refine hK _ _ ?_
    simp only [appendL, ho, if_true]
    exact ⟨trivial, S0⟩
  | false =>
    rw [ho] at F S
    by_cases h1 : (b.length : Int) < 1
    · (refine enterK c_log_Log_Append (Nat.le_of_ble_eq_true rfl) fun K hK => ?_; (try simp (maxSteps := 1000000) (disch := first | omega | assumption | exact Nat.le_of_ble_eq_true rfl) only [go_sem, ↓mwp_block, simprocAttr, ir_log_Log_Append]))
      (try simp (maxSteps := 1000000) (disch := first | omega | assumption | exact Nat.le_of_ble_eq_true rfl) only [go_sem, ↓mwp_block, simprocAttr, F, h1])
      refine hK _ _ ?_
      simp only [appendL, ho, Bool.false_eq_true, if_false, if_pos (show b.length < 1 ∨ 4000 < b.length by omega)]
      exact ⟨trivial, S0⟩
    by_cases h2 : (4000 : Int) < b.length
    · (refine enterK c_log_Log_Append (Nat.le_of_ble_eq_true rfl) fun K hK => ?_; (try simp (maxSteps := 1000000) (disch := first | omega | assumption | exact Nat.le_of_ble_eq_true rfl) only [go_sem, ↓mwp_block, simprocAttr, ir_log_Log_Append]))
      (try simp (maxSteps := 1000000) (disch := first | omega | assumption | exact Nat.le_of_ble_eq_true rfl) only [go_sem, ↓mwp_block, simprocAttr, F, h1, h2])
      refine hK _ _ ?_
      simp only [appendL, ho, Bool.false_eq_true, if_false, if_pos (show b.length < 1 ∨ 4000 < b.length by omega)]
      exact ⟨trivial, S0⟩
    have hb : ¬ (b.length < 1 ∨ 4000 < b.length) := by omega
    have hfl := frameOf_len b
    (refine enterK c_log_Log_Append (Nat.le_of_ble_eq_true rfl) fun K hK => ?_; (try simp (maxSteps := 1000000) (disch := first | omega | assumption | exact Nat.le_of_ble_eq_true rfl) only [go_sem, ↓mwp_block, simprocAttr, ir_log_Log_Append]))
    (try simp (maxSteps := 1000000) (disch := first | omega | assumption | exact Nat.le_of_ble_eq_true rfl) only [go_sem, ↓mwp_block, simprocAttr, F, h1, h2])
    refine call_intro (Frame_ok S (fun h' S => ha h' S.tl.tl.tl.tl) (by omega)) ?_
    clear S F
    rintro _ h (⟨hx, _⟩ | ⟨_, _, f, rfl, S⟩)
    · omega
    obtain ⟨Af, cf, rfl⟩ := S.sl
    obtain ⟨_, hcf, _⟩ := S.cap
    have S1 := S.p1
    ((try clear F); have F := S.all; (try simp only [all_cons, all_nil, says_cell, and_true] at F))
    (try simp (maxSteps := 1000000) (disch := first | omega | assumption | exact Nat.le_of_ble_eq_true rfl) only [go_sem, ↓mwp_block, simprocAttr])
    refine draw_eq ?_
    (try simp (maxSteps := 1000000) (disch := first | omega | assumption | exact Nat.le_of_ble_eq_true rfl) only [go_sem, ↓mwp_block, simprocAttr, F])
    refine call_intro (Append_ok L.file S.p4 ok (fun h' S => S.arr bEnc_len) hcf (by omega)) ?_
    clear S F S1
    rintro _ h ⟨rfl, S⟩
    have hdef : appendL D L b = if (appendD D L.file (frameOf b)).2 ≠ 0 then ((appendD D L.file (frameOf b)).1, overL L (appendD D L.file (frameOf b)).2, (appendD D L.file (frameOf b)).2)
      else if (syncD (appendD D L.file (frameOf b)).1 L.file).2 ≠ 0 then ((syncD (appendD D L.file (frameOf b)).1 L.file).1, overL L (syncD (appendD D L.file (frameOf b)).1 L.file).2, (syncD (appendD D L.file (frameOf b)).1 L.file).2)
      else ((syncD (appendD D L.file (frameOf b)).1 L.file).1, { L with recs := L.recs ++ [b] }, 0) := by
      rw [appendL, ho, if_neg (by simp), if_neg hb]
    have ok1 := append_okn ok L.file (frameOf b)
    obtain ⟨R1, hR1⟩ : ∃ r, appendD D L.file (frameOf b) = r := ⟨_, rfl⟩
    rw [hR1] at hdef ok1 S ⊢
    obtain ⟨D1, e1⟩ := R1
    simp only at hdef ok1 S ⊢
    by_cases he1 : e1 = 0
    case neg =>
      rw [if_pos he1] at hdef
      rw [hdef] at hK
      have S : St h0 h (logA p d L :: diskA d D1 :: l) := by
        have S := S.d1
        exact (logA_open.2 ⟨im, rs, by rw [ho]; exact S.p3.p3.p3⟩)
      (try simp (maxSteps := 1000000) (disch := first | omega | assumption | exact Nat.le_of_ble_eq_true rfl) only [go_sem, ↓mwp_block, simprocAttr, he1])
      refine call_intro (done_ok e1 S) ?_
      rintro _ h ⟨rfl, S⟩
      (try simp (maxSteps := 1000000) (disch := first | omega | assumption | exact Nat.le_of_ble_eq_true rfl) only [go_sem, ↓mwp_block, simprocAttr])
      exact hK _ _ ⟨rfl, S⟩
    rw [if_neg (by rw [he1]; simp)] at hdef
    have S := S.d1
    ((try clear F); have F := S.all; (try simp only [all_cons, all_nil, says_cell, and_true] at F))
    (try simp (maxSteps := 1000000) (disch := first | omega | assumption | exact Nat.le_of_ble_eq_true rfl) only [go_sem, ↓mwp_block, simprocAttr, he1])
    refine draw_eq ?_
    (try simp (maxSteps := 1000000) (disch := first | omega | assumption | exact Nat.le_of_ble_eq_true rfl) only [go_sem, ↓mwp_block, simprocAttr, F])
    refine call_intro (Sync_ok L.file S ok1) ?_
    clear S F
    rintro _ h ⟨rfl, S⟩
    have ok2 := sync_okn ok1 L.file
    obtain ⟨R2, hR2⟩ : ∃ r, syncD D1 L.file = r := ⟨_, rfl⟩
    rw [hR2] at hdef ok2 S ⊢
    obtain ⟨D2, e2⟩ := R2
    simp only at hdef ok2 S ⊢
    by_cases he2 : e2 = 0
    case neg =>
      rw [if_pos he2] at hdef
      rw [hdef] at hK
      have S : St h0 h (logA p d L :: diskA d D2 :: l) := logA_open.2 ⟨im, rs, by rw [ho]; exact S.p3.p3.p3⟩
      (try simp (maxSteps := 1000000) (disch := first | omega | assumption | exact Nat.le_of_ble_eq_true rfl) only [go_sem, ↓mwp_block, simprocAttr, he2])
      refine call_intro (done_ok e2 S) ?_
      rintro _ h ⟨rfl, S⟩
      (try simp (maxSteps := 1000000) (disch := first | omega | assumption | exact Nat.le_of_ble_eq_true rfl) only [go_sem, ↓mwp_block, simprocAttr])
      exact hK _ _ ⟨rfl, S⟩
    rw [if_neg (by rw [he2]; simp)] at hdef
    rw [hdef] at hK
    obtain ⟨Br, n, er, rfl⟩ : ∃ Br n er, rs = .slice Br n er := by
      obtain ⟨zs, hzs, So⟩ := lsA_open.1 S.p3
      obtain ⟨B1, e1, rfl⟩ := So.sl
      exact ⟨_, _, _, rfl⟩
    have hp4 := st_rd1 (off := 4) S.p1
    simp only [List.getElem?_cons_succ, List.getElem?_cons_zero] at hp4
    have rx : ∀ K t, readT (fun h' => rd1 h' (.pointer (some ⟨p, 4, none⟩)) = some (.slice Br n er)) (fun h' => rd1 h' (.pointer (some ⟨p, 4, none⟩))) K t = K (.slice Br n er) := fun K t => readT_v _ hp4
    (try simp (maxSteps := 1000000) (disch := first | omega | assumption | exact Nat.le_of_ble_eq_true rfl) only [go_sem, ↓mwp_block, simprocAttr, he2])
    refine draw_inv (fun h' => rd1 h' (.pointer (some ⟨p, 4, none⟩)) = some (.slice Br n er)) hp4 ?_
    (try simp (maxSteps := 1000000) (disch := first | omega | assumption | exact Nat.le_of_ble_eq_true rfl) only [go_sem, ↓mwp_block, simprocAttr, rx])
    refine call_intro (CloneB_ok S (ha _ S.tl.tl.tl.tl) rfl (arr_noneB (ha _ S.tl.tl.tl.tl)) (by omega)) ?_
    clear S rx hp4
    rintro v h ⟨S, _⟩
    obtain ⟨Bx, ex, rfl⟩ := S.sl
    refine ⟨st_rd1 (off := 4) S.p2, ?_⟩
    (try simp (maxSteps := 1000000) (disch := first | omega | assumption | exact Nat.le_of_ble_eq_true rfl) only [go_sem, ↓mwp_block, simprocAttr])
    (refine st_alloc S ?_; clear S; intro w h S; (try simp only [splice_cons, splice_nil, List.set_cons_zero, List.set_cons_succ, Nat.zero_add, Nat.reduceAdd, List.cons_append, List.nil_append] at S); ((try clear F); have F := S.all; (try simp only [all_cons, all_nil, says_cell, and_true] at F)))
    clear F
    refine ⟨st_rd1 (off := 4) S.p3, ?_⟩
    (try simp (maxSteps := 1000000) (disch := first | omega | assumption | exact Nat.le_of_ble_eq_true rfl) only [go_sem, ↓mwp_block, simprocAttr])
    obtain ⟨zs2, hzs2, S⟩ := lsA_open.1 S.p5
    have S := S.perm (List.perm_middle (l₁ := _ :: zs2.map bRow))
    have hz2 : zs2.length = L.recs.length := by
      have := congrArg List.length hzs2
      simpa using this
    refine st_append1 (bytes := 24) (x := (⟨Bx, ex, b⟩ : Bz)) bz_len (by omega) bz_plain rfl rfl S (by omega) (by omega) ?_
    clear S
    intro v' h S
    obtain ⟨B2, e2', rfl⟩ := S.sl
    have S : St h0 h (lsA (.slice B2 (zs2 ++ [(⟨Bx, ex, b⟩ : Bz)]).length e2') (L.recs ++ [b]) :: _) := lsA_open.2 ⟨zs2 ++ [⟨Bx, ex, b⟩], by rw [List.map_append, hzs2]; rfl, by rw [List.map_append, List.append_assoc]; exact S⟩
    (try simp (maxSteps := 1000000) (disch := first | omega | assumption | exact Nat.le_of_ble_eq_true rfl) only [go_sem, ↓mwp_block, simprocAttr])
    refine st_store S.p2 rfl rfl (Nat.le_of_ble_eq_true rfl) ?_
    clear S
    intro h S
    (try simp only [splice_cons, splice_nil, List.set_cons_zero, List.set_cons_succ, Nat.zero_add, Nat.reduceAdd, List.cons_append, List.nil_append] at S)
    (try simp (maxSteps := 1000000) (disch := first | omega | assumption | exact Nat.le_of_ble_eq_true rfl) only [go_sem, ↓mwp_block, simprocAttr])
    refine hK _ _ ⟨rfl, logA_open.2 ⟨im, .slice B2 (zs2 ++ [(⟨Bx, ex, b⟩ : Bz)]).length e2', ?_⟩⟩
    simp only [ho]
    exact S.p3.p1
end
end Go.Proofs.Ytnjjdpeglkiifaa.MX

/- The log: the next generation's file, Compact, Create. -/
namespace Go.Proofs.Ytnjjdpeglkiifaa.MX
open Go Go.Proofs
set_option linter.unusedSimpArgs false
set_option linter.unusedVariables false
set_option maxHeartbeats 8000000
/-- The frame with which a generation's file begins. -/
def headF (g : Int) (img : List UInt8) : List UInt8 := frameOf (le 4 g ++ img)
def NoErr (q : Bool) (e : Int) : Prop := q = true → e = 0
def makeD (D : Dk) (file : Int) (f : List UInt8) : Dk × Int :=
  if (fileOf D 3).isSome ∧ (removeD D 3).2 ≠ 0 then removeD D 3
  else
    let D1 := if (fileOf D 3).isSome then (removeD D 3).1 else D
    if (appendD D1 3 f).2 ≠ 0 then appendD D1 3 f
    else if (syncD (appendD D1 3 f).1 3).2 ≠ 0 then syncD (appendD D1 3 f).1 3
    else renameD (syncD (appendD D1 3 f).1 3).1 3 (3 - file)
def compactL (D : Dk) (L : Lg) (img : List UInt8) : Dk × Lg × Int :=
  if L.over then (D, L, 6)
  else if 60000 < img.length + 4 then (D, L, 4)
  else if 2147483648 ≤ L.gen ∨ D.cap - used D.fs + szF (fileOf D 3) < (11 + img.length : Nat) then (D, L, 5)
  else if (makeD D L.file (headF (L.gen + 1) img)).2 ≠ 0 then ((makeD D L.file (headF (L.gen + 1) img)).1, overL L (makeD D L.file (headF (L.gen + 1) img)).2, (makeD D L.file (headF (L.gen + 1) img)).2)
  else if (fileOf (makeD D L.file (headF (L.gen + 1) img)).1 L.file).isSome then
    ((removeD (makeD D L.file (headF (L.gen + 1) img)).1 L.file).1, overL ⟨3 - L.file, L.gen + 1, img, [], L.over⟩ (removeD (makeD D L.file (headF (L.gen + 1) img)).1 L.file).2, (removeD (makeD D L.file (headF (L.gen + 1) img)).1 L.file).2)
  else ((makeD D L.file (headF (L.gen + 1) img)).1, ⟨3 - L.file, L.gen + 1, img, [], L.over⟩, 0)
theorem headF_len (g : Int) (img : List UInt8) : (headF g img).length = 11 + img.length := by rw [headF, frameOf_len, List.length_append, le_length]; omega
section
variable {h0 h : Heap} {l : List HP} {p d : Nat} {D : Dk} {L : Lg}
theorem next_ok {A : Option Addr} {c : Nat} {img : List UInt8} (hg : 0 ≤ L.gen ∧ L.gen < 4294967295) (S : St h0 h (logA p d L :: l)) (ha : ∀ h', St h0 h' (logA p d L :: l) → Arr bEnc 1 h' A img) (hi : img.length + 4 ≤ 60000) :
    CallsH Try.prog 75 [.pointer (some ⟨p, 0, none⟩), .slice A img.length c] h fun v h' => ∃ f, v = .tuple #[f, .int .i64 0] ∧ St h0 h' (ownA bEnc 1 5 f (headF (L.gen + 1) img) :: logA p d L :: l) := by
  have w1 : IntKind.i64.wrap (L.gen + 1) = L.gen + 1 := wrap_i64 (by omega) (by omega)
  (refine enterK c_log_Log_next (Nat.le_of_ble_eq_true rfl) fun K hK => ?_; (try simp (maxSteps := 1000000) (disch := first | omega | assumption | exact Nat.le_of_ble_eq_true rfl) only [go_sem, ↓mwp_block, simprocAttr, ir_log_Log_next]))
  (refine st_alloc S ?_; clear S; intro o h S; (try simp only [splice_cons, splice_nil, List.set_cons_zero, List.set_cons_succ, Nat.zero_add, Nat.reduceAdd, List.cons_append, List.nil_append] at S); ((try clear F); have F := S.all; (try simp only [all_cons, all_nil, says_cell, and_true] at F)))
  clear F
  have S1 := S
  obtain ⟨im, rs, S1⟩ := logA_open.1 S.p1
  have F := S1.all
  simp only [all_cons, all_nil, says_cell, and_true] at F
  (try simp (maxSteps := 1000000) (disch := first | omega | assumption | exact Nat.le_of_ble_eq_true rfl) only [go_sem, ↓mwp_block, simprocAttr, F, w1])
  refine call_intro (U32_ok _ (outNew S) ⟨by omega, by omega⟩ (by simp)) fun r h S => ?_
  rw [(put4 (by omega) (by omega)).1, (put4 (bs := []) (by omega) (by omega)).2, List.nil_append] at S
  clear S1 F
  (try simp (maxSteps := 1000000) (disch := first | omega | assumption | exact Nat.le_of_ble_eq_true rfl) only [go_sem, ↓mwp_block, simprocAttr])
  refine call_intro (Plain_ok img S (ha _ S.tl) (by rw [le_length]; omega)) fun r h S => ?_
  simp only [Bool.false_eq_true, if_false] at S
  (try simp (maxSteps := 1000000) (disch := first | omega | assumption | exact Nat.le_of_ble_eq_true rfl) only [go_sem, ↓mwp_block, simprocAttr])
  refine call_intro (End_ok S (by rw [List.length_append, le_length]; omega)) ?_
  clear S
  rintro _ h ⟨s, rfl, S⟩
  simp only [Bool.false_eq_true, if_false] at S
  obtain ⟨B, e, rfl⟩ := S.sl
  have hl : (le 4 (L.gen + 1) ++ img).length = 4 + img.length := by rw [List.length_append, le_length]
  (try simp (maxSteps := 1000000) (disch := first | omega | assumption | exact Nat.le_of_ble_eq_true rfl) only [go_sem, ↓mwp_block, simprocAttr])
  refine call_intro (Frame_ok S (fun h' S => S.arr bEnc_len) (by omega)) ?_
  clear S
  rintro _ h (⟨hx, _⟩ | ⟨_, _, f, rfl, S⟩)
  · omega
  (try simp (maxSteps := 1000000) (disch := first | omega | assumption | exact Nat.le_of_ble_eq_true rfl) only [go_sem, ↓mwp_block, simprocAttr])
  exact hK _ _ ⟨f, rfl, S.d1.d1⟩
theorem make_ok {A : Option Addr} {c : Nat} {f : List UInt8} (ok : D.ok) (hf : I64 (3 - L.file)) (S : St h0 h (logA p d L :: diskA d D :: l)) (ha : ∀ h', St h0 h' l → Arr bEnc 1 h' A f) (hc : f.length ≤ c) (hl : f.length < 1000000) :
    CallsH Try.prog 76 [.pointer (some ⟨p, 0, none⟩), .slice A f.length c] h fun v h' => v = .int .i64 (makeD D L.file f).2 ∧ St h0 h' (logA p d L :: diskA d (makeD D L.file f).1 :: l) := by
  have w1 : IntKind.i64.wrap (3 - L.file) = 3 - L.file := wrap_i64 hf.1 hf.2
  (refine enterK c_log_Log_make (Nat.le_of_ble_eq_true rfl) fun K hK => ?_; (try simp (maxSteps := 1000000) (disch := first | omega | assumption | exact Nat.le_of_ble_eq_true rfl) only [go_sem, ↓mwp_block, simprocAttr, ir_log_Log_make]))
  obtain ⟨im, rs, S1⟩ := logA_open.1 S
  have F := S1.all
  simp only [all_cons, all_nil, says_cell, and_true] at F
  (try simp (maxSteps := 1000000) (disch := first | omega | assumption | exact Nat.le_of_ble_eq_true rfl) only [go_sem, ↓mwp_block, simprocAttr, F])
  refine call_intro (Has_ok 3 S.p1) ?_
  rintro _ _ ⟨rfl, rfl⟩
  have hdef : makeD D L.file f = if (fileOf D 3).isSome ∧ (removeD D 3).2 ≠ 0 then removeD D 3
    else if (appendD (if (fileOf D 3).isSome then (removeD D 3).1 else D) 3 f).2 ≠ 0 then appendD (if (fileOf D 3).isSome then (removeD D 3).1 else D) 3 f
    else if (syncD (appendD (if (fileOf D 3).isSome then (removeD D 3).1 else D) 3 f).1 3).2 ≠ 0 then syncD (appendD (if (fileOf D 3).isSome then (removeD D 3).1 else D) 3 f).1 3
    else renameD (syncD (appendD (if (fileOf D 3).isSome then (removeD D 3).1 else D) 3 f).1 3).1 3 (3 - L.file) := rfl
  have okR := remove_okn ok 3
  generalize hRR : removeD D 3 = RR at *
  obtain ⟨DR, eR⟩ := RR
  generalize hq : (fileOf D 3).isSome = q at *
  (try simp (maxSteps := 1000000) (disch := first | omega | assumption | exact Nat.le_of_ble_eq_true rfl) only [go_sem, ↓mwp_block, simprocAttr])
  refine cond_cut (fun ρ' h' => ρ' 0 = .pointer (some ⟨p, 0, none⟩) ∧ ρ' 1 = .slice A f.length c ∧ NoErr q eR ∧ St h0 h' (logA p d L :: diskA d (if q then DR else D) :: l)) ?_ ?_ ?_
  · intro hb J hJ
    subst hb
    (try simp (maxSteps := 1000000) (disch := first | omega | assumption | exact Nat.le_of_ble_eq_true rfl) only [go_sem, ↓mwp_block, simprocAttr, F])
    refine call_intro (Remove_ok 3 S.p1 ok) ?_
    clear S S1 F
    rintro _ h ⟨rfl, S⟩
    rw [hRR] at S ⊢
    by_cases he : eR = 0
    · (try simp (maxSteps := 1000000) (disch := first | omega | assumption | exact Nat.le_of_ble_eq_true rfl) only [go_sem, ↓mwp_block, simprocAttr, he])
      refine hJ _ _ ?_
      (try simp (maxSteps := 1000000) (disch := first | omega | assumption | exact Nat.le_of_ble_eq_true rfl) only [go_sem, ↓mwp_block, simprocAttr])
      exact ⟨fun _ => he, S.p1⟩
    · rw [if_pos ⟨rfl, he⟩] at hdef
      rw [hdef] at hK
      (try simp (maxSteps := 1000000) (disch := first | omega | assumption | exact Nat.le_of_ble_eq_true rfl) only [go_sem, ↓mwp_block, simprocAttr, he])
      exact hK _ _ ⟨rfl, S.p1⟩
  · intro hb J hJ
    subst hb
    (try simp (maxSteps := 1000000) (disch := first | omega | assumption | exact Nat.le_of_ble_eq_true rfl) only [go_sem, ↓mwp_block, simprocAttr])
    refine hJ _ _ ?_
    (try simp (maxSteps := 1000000) (disch := first | omega | assumption | exact Nat.le_of_ble_eq_true rfl) only [go_sem, ↓mwp_block, simprocAttr])
    exact ⟨(fun hx => by cases hx), S⟩
  clear S S1 F
  rintro ρ h ⟨e0, e1, hno, S⟩
  rw [if_neg (fun hx => hx.2 (hno hx.1))] at hdef
  have ok1 : (if q then DR else D : Dk).ok := by split <;> assumption
  generalize (if q then DR else D : Dk) = D1 at *
  obtain ⟨im, rs, S1⟩ := logA_open.1 S
  have F := S1.all
  simp only [all_cons, all_nil, says_cell, and_true] at F
  (try simp (maxSteps := 1000000) (disch := first | omega | assumption | exact Nat.le_of_ble_eq_true rfl) only [go_sem, ↓mwp_block, simprocAttr, e0, e1, F])
  refine call_intro (Append_ok 3 S.p1 ok1 (fun h' S => ha h' S.tl) hc (by omega)) ?_
  clear S S1 F
  rintro _ h ⟨rfl, S⟩
  have ok2 := append_okn ok1 3 f
  generalize appendD D1 3 f = R2 at *
  obtain ⟨D2, e2⟩ := R2
  simp only at hdef ok2 S ⊢
  by_cases he2 : e2 = 0
  case neg =>
    rw [if_pos he2] at hdef
    rw [hdef] at hK
    (try simp (maxSteps := 1000000) (disch := first | omega | assumption | exact Nat.le_of_ble_eq_true rfl) only [go_sem, ↓mwp_block, simprocAttr, he2])
    exact hK _ _ ⟨rfl, S.p1⟩
  rw [if_neg (by rw [he2]; simp)] at hdef
  have S := S.p1
  obtain ⟨im, rs, S1⟩ := logA_open.1 S
  have F := S1.all
  simp only [all_cons, all_nil, says_cell, and_true] at F
  (try simp (maxSteps := 1000000) (disch := first | omega | assumption | exact Nat.le_of_ble_eq_true rfl) only [go_sem, ↓mwp_block, simprocAttr, he2, e0, F])
  refine call_intro (Sync_ok 3 S.p1 ok2) ?_
  clear S S1 F
  rintro _ h ⟨rfl, S⟩
  have ok3 := sync_okn ok2 3
  generalize syncD D2 3 = R3 at *
  obtain ⟨D3, e3⟩ := R3
  simp only at hdef ok3 S ⊢
  by_cases he3 : e3 = 0
  case neg =>
    rw [if_pos he3] at hdef
    rw [hdef] at hK
    (try simp (maxSteps := 1000000) (disch := first | omega | assumption | exact Nat.le_of_ble_eq_true rfl) only [go_sem, ↓mwp_block, simprocAttr, he3])
    exact hK _ _ ⟨rfl, S.p1⟩
  rw [if_neg (by rw [he3]; simp)] at hdef
  rw [hdef] at hK
  have S := S.p1
  obtain ⟨im, rs, S1⟩ := logA_open.1 S
  have F := S1.all
  simp only [all_cons, all_nil, says_cell, and_true] at F
  (try simp (maxSteps := 1000000) (disch := first | omega | assumption | exact Nat.le_of_ble_eq_true rfl) only [go_sem, ↓mwp_block, simprocAttr, he3])
  refine draw_eq ?_
  (try simp (maxSteps := 1000000) (disch := first | omega | assumption | exact Nat.le_of_ble_eq_true rfl) only [go_sem, ↓mwp_block, simprocAttr, e0, F, w1])
  refine call_intro (Rename_ok 3 (3 - L.file) S.p1 ok3) ?_
  clear S S1 F
  rintro _ h ⟨rfl, S⟩
  (try simp (maxSteps := 1000000) (disch := first | omega | assumption | exact Nat.le_of_ble_eq_true rfl) only [go_sem, ↓mwp_block, simprocAttr])
  exact hK _ _ ⟨rfl, S.p1⟩
end
end Go.Proofs.Ytnjjdpeglkiifaa.MX
