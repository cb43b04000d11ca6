/- Texts in one file: Lg5, Lg6, Lg7. -/
import Derived.Test.YtnjjdpeglkiifaaK21

/- The log: Compact, Create. -/
namespace Go.Proofs.Ytnjjdpeglkiifaa.MX
open Go Go.Proofs
set_option linter.unusedSimpArgs false
set_option linter.unusedVariables false
set_option maxHeartbeats 8000000
theorem make_okn {D : Dk} (ok : D.ok) (file : Int) (f : List UInt8) : (makeD D file f).1.ok := by
  unfold makeD
  split
  · exact remove_okn ok 3
  · have ok1 : (if (fileOf D 3).isSome then (removeD D 3).1 else D : Dk).ok := by
      split
      · exact remove_okn ok 3
      · exact ok
    simp only
    generalize (if (fileOf D 3).isSome then (removeD D 3).1 else D : Dk) = D1 at *
    split
    · exact append_okn ok1 3 f
    · split
      · exact sync_okn (append_okn ok1 3 f) 3
      · exact rename_okn (sync_okn (append_okn ok1 3 f) 3) 3 (3 - file)
section
variable {h0 h : Heap} {l : List HP} {p d : Nat} {D : Dk} {L : Lg}
theorem CompactL_ok {A : Option Addr} {c : Nat} {img : List UInt8} (ok : D.ok) (hg : 0 ≤ L.gen ∧ L.gen < 4294967295) (hf : I64 (3 - L.file)) (S : St h0 h (logA p d L :: diskA d D :: l)) (ha : ∀ h', St h0 h' l → Arr bEnc 1 h' A img) (hl : img.length < 1000000) :
    CallsH Try.prog 42 [.pointer (some ⟨p, 0, none⟩), .slice A img.length c] h fun v h' => v = .int .i64 (compactL D L img).2.2 ∧ St h0 h' (logA p d (compactL D L img).2.1 :: diskA d (compactL D L img).1 :: l) := by
  have S0 := S
  obtain ⟨im, rs, S1⟩ := logA_open.1 S
  have F := S1.all
  simp only [all_cons, all_nil, says_cell, and_true] at F
  have wl : IntKind.i64.wrap ((img.length : Int) + 4) = (img.length : Int) + 4 := wrap_i64 (by omega) (by omega)
  have w3 : IntKind.i64.wrap (3 - L.file) = 3 - L.file := wrap_i64 hf.1 hf.2
  have wg : IntKind.i64.wrap (L.gen + 1) = L.gen + 1 := wrap_i64 (by omega) (by omega)
  cases ho : L.over with
  | true =>
    rw [ho] at F
    (refine enterK c_log_Log_Compact (Nat.le_of_ble_eq_true rfl) fun K hK => ?_; (try simp (maxSteps := 1000000) (disch := first | omega | assumption | exact Nat.le_of_ble_eq_true rfl) only [go_sem, ↓mwp_block, simprocAttr, ir_log_Log_Compact]))
    (try simp (maxSteps := 1000000) (disch := first | omega | assumption | exact Nat.le_of_ble_eq_true rfl) only [go_sem, ↓mwp_block, simprocAttr, F])
    refine hK _ _ ?_
    simp only [compactL, ho, if_true]
    exact ⟨trivial, S0⟩
  | false =>
    rw [ho] at F
    by_cases h1 : (60000 : Int) < (img.length : Int) + 4
    · (refine enterK c_log_Log_Compact (Nat.le_of_ble_eq_true rfl) fun K hK => ?_; (try simp (maxSteps := 1000000) (disch := first | omega | assumption | exact Nat.le_of_ble_eq_true rfl) only [go_sem, ↓mwp_block, simprocAttr, ir_log_Log_Compact]))
      (try simp (maxSteps := 1000000) (disch := first | omega | assumption | exact Nat.le_of_ble_eq_true rfl) only [go_sem, ↓mwp_block, simprocAttr, F, wl, h1])
      refine hK _ _ ?_
      simp only [compactL, ho, Bool.false_eq_true, if_false, if_pos (show 60000 < img.length + 4 by omega)]
      exact ⟨trivial, S0⟩
    have hdef : compactL D L img = if 2147483648 ≤ L.gen ∨ D.cap - used D.fs + szF (fileOf D 3) < (11 + img.length : Nat) then (D, L, 5)
      else if (makeD D L.file (headF (L.gen + 1) img)).2 ≠ 0 then ((makeD D L.file (headF (L.gen + 1) img)).1, overL L (makeD D L.file (headF (L.gen + 1) img)).2, (makeD D L.file (headF (L.gen + 1) img)).2)
      else if (fileOf (makeD D L.file (headF (L.gen + 1) img)).1 L.file).isSome then
        ((removeD (makeD D L.file (headF (L.gen + 1) img)).1 L.file).1, overL ⟨3 - L.file, L.gen + 1, img, [], L.over⟩ (removeD (makeD D L.file (headF (L.gen + 1) img)).1 L.file).2, (removeD (makeD D L.file (headF (L.gen + 1) img)).1 L.file).2)
      else ((makeD D L.file (headF (L.gen + 1) img)).1, ⟨3 - L.file, L.gen + 1, img, [], L.over⟩, 0) := by
      rw [compactL, ho, if_neg (by simp), if_neg (by omega)]
    (refine enterK c_log_Log_Compact (Nat.le_of_ble_eq_true rfl) fun K hK => ?_; (try simp (maxSteps := 1000000) (disch := first | omega | assumption | exact Nat.le_of_ble_eq_true rfl) only [go_sem, ↓mwp_block, simprocAttr, ir_log_Log_Compact]))
    (try simp (maxSteps := 1000000) (disch := first | omega | assumption | exact Nat.le_of_ble_eq_true rfl) only [go_sem, ↓mwp_block, simprocAttr, F, wl, h1])
    refine call_intro (next_ok hg S (fun h' S => ha h' S.tl.tl) (by omega)) ?_
    clear S S1 F S0
    rintro _ h ⟨f, rfl, S⟩
    obtain ⟨B, e, rfl⟩ := S.sl
    obtain ⟨_, hce, _⟩ := S.cap
    have hfl := headF_len (L.gen + 1) img
    obtain ⟨im, rs, S1⟩ := logA_open.1 S.p1
    have F := S1.all
    simp only [all_cons, all_nil, says_cell, and_true] at F
    by_cases h2 : (2147483648 : Int) ≤ L.gen
    · rw [if_pos (.inl h2)] at hdef
      rw [hdef] at hK
      (try simp (maxSteps := 1000000) (disch := first | omega | assumption | exact Nat.le_of_ble_eq_true rfl) only [go_sem, ↓mwp_block, simprocAttr])
      refine draw_eq ?_
      (try simp (maxSteps := 1000000) (disch := first | omega | assumption | exact Nat.le_of_ble_eq_true rfl) only [go_sem, ↓mwp_block, simprocAttr, F, h2])
      exact hK _ _ ⟨rfl, S.tl⟩
    (try simp (maxSteps := 1000000) (disch := first | omega | assumption | exact Nat.le_of_ble_eq_true rfl) only [go_sem, ↓mwp_block, simprocAttr])
    refine draw_eq ?_
    (try simp (maxSteps := 1000000) (disch := first | omega | assumption | exact Nat.le_of_ble_eq_true rfl) only [go_sem, ↓mwp_block, simprocAttr, F, h2])
    refine call_intro (Room_ok S.p2 ok) ?_
    rintro _ _ ⟨rfl, rfl⟩
    try refine ⟨rfl, ?_⟩
    (try simp (maxSteps := 1000000) (disch := first | omega | assumption | exact Nat.le_of_ble_eq_true rfl) only [go_sem, ↓mwp_block, simprocAttr, F])
    refine call_intro (Size_ok 3 S.p2) ?_
    rintro _ _ ⟨rfl, rfl⟩
    have hcap := ok.cap
    have hroom := ok.room
    have hsz : szF (fileOf D 3) ≤ 1048576 := by
      cases hf3 : fileOf D 3 with
      | none => simp [szF]
      | some f3 => exact file_le ok hf3
    have w5 : IntKind.i64.wrap (D.cap - used D.fs + szF (fileOf D 3)) = D.cap - used D.fs + szF (fileOf D 3) := wrap_i64 (by omega) (by omega)
    by_cases h3 : D.cap - used D.fs + szF (fileOf D 3) < ((headF (L.gen + 1) img).length : Int)
    · rw [if_pos (.inr (by rw [← hfl]; exact h3))] at hdef
      rw [hdef] at hK
      (try simp (maxSteps := 1000000) (disch := first | omega | assumption | exact Nat.le_of_ble_eq_true rfl) only [go_sem, ↓mwp_block, simprocAttr, w5, h3])
      exact hK _ _ ⟨rfl, S.tl⟩
    rw [if_neg (by rw [← hfl]; rintro (hx | hx) <;> contradiction)] at hdef
    (try simp (maxSteps := 1000000) (disch := first | omega | assumption | exact Nat.le_of_ble_eq_true rfl) only [go_sem, ↓mwp_block, simprocAttr, w5, h3])
    refine call_intro (make_ok ok hf S.p2.p2 (fun h' S => S.arr bEnc_len) hce (by omega)) ?_
    clear S S1 F
    rintro _ h ⟨rfl, S⟩
    have ok1 := make_okn ok L.file (headF (L.gen + 1) img)
    generalize makeD D L.file (headF (L.gen + 1) img) = R at *
    obtain ⟨D1, e1⟩ := R
    simp only at hdef ok1 S ⊢
    have S := S.p2.tl
    by_cases he1 : e1 = 0
    case neg =>
      rw [if_pos he1] at hdef
      rw [hdef] at hK
      (try simp (maxSteps := 1000000) (disch := first | omega | assumption | exact Nat.le_of_ble_eq_true rfl) only [go_sem, ↓mwp_block, simprocAttr, he1])
      refine call_intro (done_ok e1 S) ?_
      rintro _ h ⟨rfl, S⟩
      (try simp (maxSteps := 1000000) (disch := first | omega | assumption | exact Nat.le_of_ble_eq_true rfl) only [go_sem, ↓mwp_block, simprocAttr])
      exact hK _ _ ⟨rfl, S⟩
    rw [if_neg (by rw [he1]; simp)] at hdef
    obtain ⟨im, rs, S⟩ := logA_open.1 S
    ((try clear F); have F := S.all; (try simp only [all_cons, all_nil, says_cell, and_true] at F))
    have hp2 := st_rd1 (off := 2) S
    simp only [List.getElem?_cons_succ, List.getElem?_cons_zero] at hp2
    have rx : ∀ K t, readT (fun h' => rd1 h' (.pointer (some ⟨p, 2, none⟩)) = some (.int .i64 L.gen)) (fun h' => rd1 h' (.pointer (some ⟨p, 2, none⟩))) K t = K (.int .i64 L.gen) := fun K t => readT_v _ hp2
    (try simp (maxSteps := 1000000) (disch := first | omega | assumption | exact Nat.le_of_ble_eq_true rfl) only [go_sem, ↓mwp_block, simprocAttr, he1, F])
    refine draw_inv (fun h' => rd1 h' (.pointer (some ⟨p, 2, none⟩)) = some (.int .i64 L.gen)) hp2 ?_
    (try simp (maxSteps := 1000000) (disch := first | omega | assumption | exact Nat.le_of_ble_eq_true rfl) only [go_sem, ↓mwp_block, simprocAttr, rx, w3, wg])
    refine call_intro (CloneB_ok S (ha _ S.tl.tl.tl.tl) rfl (arr_noneB (ha _ S.tl.tl.tl.tl)) (by omega)) ?_
    clear S rx hp2 F
    rintro v h ⟨S, _⟩
    obtain ⟨Bx, ex, rfl⟩ := S.sl
    refine ⟨st_rd1 (off := 2) S.p1, ?_⟩
    (try simp (maxSteps := 1000000) (disch := first | omega | assumption | exact Nat.le_of_ble_eq_true rfl) only [go_sem, ↓mwp_block, simprocAttr])
    refine st_store S.p1 rfl rfl (Nat.le_of_ble_eq_true rfl) ?_
    clear S
    intro h S
    (try simp only [splice_cons, splice_nil, List.set_cons_zero, List.set_cons_succ, Nat.zero_add, Nat.reduceAdd, List.cons_append, List.nil_append] at S)
    (try simp (maxSteps := 1000000) (disch := first | omega | assumption | exact Nat.le_of_ble_eq_true rfl) only [go_sem, ↓mwp_block, simprocAttr])
    refine st_store S rfl rfl (Nat.le_of_ble_eq_true rfl) ?_
    clear S
    intro h S
    (try simp only [splice_cons, splice_nil, List.set_cons_zero, List.set_cons_succ, Nat.zero_add, Nat.reduceAdd, List.cons_append, List.nil_append] at S)
    (try simp (maxSteps := 1000000) (disch := first | omega | assumption | exact Nat.le_of_ble_eq_true rfl) only [go_sem, ↓mwp_block, simprocAttr])
    refine st_store S rfl rfl (Nat.le_of_ble_eq_true rfl) ?_
    clear S
    intro h S
    (try simp only [splice_cons, splice_nil, List.set_cons_zero, List.set_cons_succ, Nat.zero_add, Nat.reduceAdd, List.cons_append, List.nil_append] at S)
    (try simp (maxSteps := 1000000) (disch := first | omega | assumption | exact Nat.le_of_ble_eq_true rfl) only [go_sem, ↓mwp_block, simprocAttr])
    refine st_store S rfl rfl (Nat.le_of_ble_eq_true rfl) ?_
    clear S
    intro h S
    (try simp only [splice_cons, splice_nil, List.set_cons_zero, List.set_cons_succ, Nat.zero_add, Nat.reduceAdd, List.cons_append, List.nil_append] at S)
    have S : St h0 h (logA p d ⟨3 - L.file, L.gen + 1, img, [], L.over⟩ :: diskA d D1 :: l) := by
      have S1 := own_img S.p1
      have S2 : St h0 h (lsA (.slice none 0 0) [] :: _) := lsA_open.2 ⟨[], rfl, S1.nilS⟩
      refine logA_open.2 ⟨.slice Bx img.length ex, .slice none 0 0, ?_⟩
      have S3 := S2.p3.tl.p3.tl
      show St h0 h (cellA p [.pointer (some ⟨d, 0, none⟩), .int .i64 (3 - L.file), .int .i64 (L.gen + 1), .slice Bx img.length ex, .slice none 0 0, .bool L.over] 115 :: imgA (.slice Bx img.length ex) img :: lsA (.slice none 0 0) [] :: diskA d D1 :: l)
      (refine St.perm S3 ?_; repeat (with_reducible first | exact List.Perm.refl _ | refine pm0 ?_ | refine pm1 ?_ | refine pm2 ?_ | refine pm3 ?_ | refine pm4 ?_ | refine pm5 ?_ | refine pm6 ?_ | refine pm7 ?_ | refine pm8 ?_ | refine pm9 ?_ | refine pm10 ?_ | refine pm11 ?_ | refine pm12 ?_))
    obtain ⟨im, rs, S1⟩ := logA_open.1 S
    have F := S1.all
    simp only [all_cons, all_nil, says_cell, and_true] at F
    (try simp (maxSteps := 1000000) (disch := first | omega | assumption | exact Nat.le_of_ble_eq_true rfl) only [go_sem, ↓mwp_block, simprocAttr, F])
    refine call_intro (Has_ok L.file S.p1) ?_
    rintro _ _ ⟨rfl, rfl⟩
    cases hq : (fileOf D1 L.file).isSome with
    | false =>
      rw [hq] at hdef
      rw [if_neg (by simp)] at hdef
      rw [hdef] at hK
      (try simp (maxSteps := 1000000) (disch := first | omega | assumption | exact Nat.le_of_ble_eq_true rfl) only [go_sem, ↓mwp_block, simprocAttr])
      exact hK _ _ ⟨rfl, S⟩
    | true =>
      rw [hq] at hdef
      rw [if_pos rfl] at hdef
      rw [hdef] at hK
      (try simp (maxSteps := 1000000) (disch := first | omega | assumption | exact Nat.le_of_ble_eq_true rfl) only [go_sem, ↓mwp_block, simprocAttr, F])
      refine call_intro (Remove_ok L.file S.p1 ok1) ?_
      clear S S1 F
      rintro _ h ⟨rfl, S⟩
      (try simp (maxSteps := 1000000) (disch := first | omega | assumption | exact Nat.le_of_ble_eq_true rfl) only [go_sem, ↓mwp_block, simprocAttr])
      refine call_intro (done_ok _ S.p1) ?_
      clear S
      rintro _ h ⟨rfl, S⟩
      (try simp (maxSteps := 1000000) (disch := first | omega | assumption | exact Nat.le_of_ble_eq_true rfl) only [go_sem, ↓mwp_block, simprocAttr])
      exact hK _ _ ⟨rfl, S⟩
/-- Create, on a disk that has no log. -/
def createL (D : Dk) (img : List UInt8) : Dk × Lg × Int := compactL D ⟨2, 0, [], [], false⟩ img
theorem Create_ok {A : Option Addr} {c : Nat} {img : List UInt8} (ok : D.ok) (hlo : D.lost = false) (hno : findL D = lg0) (S : St h0 h (diskA d D :: l)) (ha : ∀ h', St h0 h' l → Arr bEnc 1 h' A img) (hl : img.length < 1000000) :
    CallsH Try.prog 36 [.pointer (some ⟨d, 0, none⟩), .slice A img.length c] h fun v h' =>
      ((createL D img).2.2 = 0 ∧ ∃ p, v = .tuple #[.pointer (some ⟨p, 0, none⟩), .int .i64 0] ∧ St h0 h' (logA p d (createL D img).2.1 :: diskA d (createL D img).1 :: l)) ∨
      ((createL D img).2.2 ≠ 0 ∧ v = .tuple #[.pointer none, .int .i64 (createL D img).2.2] ∧ St h0 h' (diskA d (createL D img).1 :: l)) := by
  (refine enterK c_log_Create (Nat.le_of_ble_eq_true rfl) fun K hK => ?_; (try simp (maxSteps := 1000000) (disch := first | omega | assumption | exact Nat.le_of_ble_eq_true rfl) only [go_sem, ↓mwp_block, simprocAttr, ir_log_Create]))
  refine call_intro (find_ok ok hlo S) ?_
  clear S
  rintro _ h ⟨p, rfl, S⟩
  rw [hno] at S
  obtain ⟨im, rs, S⟩ := logA_open.1 S
  simp only [lg0] at S
  ((try clear F); have F := S.all; (try simp only [all_cons, all_nil, says_cell, and_true] at F))
  (try simp (maxSteps := 1000000) (disch := first | omega | assumption | exact Nat.le_of_ble_eq_true rfl) only [go_sem, ↓mwp_block, simprocAttr, F])
  refine st_store S rfl rfl (Nat.le_of_ble_eq_true rfl) ?_
  clear S F
  intro h S
  (try simp only [splice_cons, splice_nil, List.set_cons_zero, List.set_cons_succ, Nat.zero_add, Nat.reduceAdd, List.cons_append, List.nil_append] at S)
  have S : St h0 h (logA p d ⟨2, 0, [], [], false⟩ :: diskA d D :: l) := logA_open.2 ⟨im, rs, S⟩
  (try simp (maxSteps := 1000000) (disch := first | omega | assumption | exact Nat.le_of_ble_eq_true rfl) only [go_sem, ↓mwp_block, simprocAttr])
  refine call_intro (CompactL_ok (L := ⟨2, 0, [], [], false⟩) ok ⟨by decide, by decide⟩ ⟨by decide, by decide⟩ S ha hl) ?_
  clear S
  rintro _ h ⟨rfl, S⟩
  have hcr : compactL D ⟨2, 0, [], [], false⟩ img = createL D img := rfl
  rw [hcr] at S ⊢
  generalize createL D img = R at *
  obtain ⟨D1, L1, e⟩ := R
  simp only at S hK ⊢
  by_cases he : e = 0
  · (try simp (maxSteps := 1000000) (disch := first | omega | assumption | exact Nat.le_of_ble_eq_true rfl) only [go_sem, ↓mwp_block, simprocAttr, he])
    exact hK _ _ (.inl ⟨he, p, rfl, S⟩)
  · (try simp (maxSteps := 1000000) (disch := first | omega | assumption | exact Nat.le_of_ble_eq_true rfl) only [go_sem, ↓mwp_block, simprocAttr, he])
    exact hK _ _ (.inr ⟨he, rfl, S.tl⟩)
end
end Go.Proofs.Ytnjjdpeglkiifaa.MX

/- The log: the law LogFull. -/
namespace Go.Proofs.Ytnjjdpeglkiifaa.MX
open Go Go.Proofs
set_option linter.unusedSimpArgs false
set_option linter.unusedVariables false
set_option maxHeartbeats 8000000
def dk0 (cap : Int) : Dk := ⟨cap, [none, none, none, none, none, none, none, none], -1, false⟩
def dk1 (cap : Int) (f : List UInt8) : Dk := ⟨cap, [none, some ⟨f, f.length⟩, none, none, none, none, none, none], -1, false⟩
theorem dk0_ok {cap : Int} (h : 0 ≤ cap ∧ cap ≤ 1048576) : (dk0 cap).ok := ⟨rfl, h, h.1, by show (-1 : Int) ≤ -1 ∧ (-1 : Int) < 9223372036854775808; decide, by simp [dk0]⟩
theorem used1 (cap : Int) (f : List UInt8) : used (dk1 cap f).fs = f.length := by simp [used, dk1, szF]
theorem dk1_ok {cap : Int} {f : List UInt8} (h : 0 ≤ cap ∧ cap ≤ 1048576) (hf : (f.length : Int) ≤ cap) : (dk1 cap f).ok := ⟨rfl, h, by rw [used1]; exact hf, by show (-1 : Int) ≤ -1 ∧ (-1 : Int) < 9223372036854775808; decide, by
  intro g hg
  simp [dk1] at hg
  subst hg
  exact Nat.le_refl _⟩
theorem find0 (cap : Int) : findL (dk0 cap) = lg0 := rfl
theorem make0 {cap : Int} {f : List UInt8} (hf : (f.length : Int) ≤ cap) : makeD (dk0 cap) 2 f = (dk1 cap f, 0) := by
  have h1 : appendD (dk0 cap) 3 f = (⟨cap, [none, none, none, some ⟨f, 0⟩, none, none, none, none], -1, false⟩, 0) := by
    have hu : used (dk0 cap).fs = 0 := rfl
    have ha : askE (dk0 cap) 3 = 0 := rfl
    rw [appendD, ha, if_neg (by simp), hu, if_neg (by show ¬ (f.length : Int) > cap - ((0 : Nat) : Int); omega), if_neg (by show ¬ ((-1 : Int) = 0); decide)]
    rfl
  have h2 : syncD ⟨cap, [none, none, none, some ⟨f, 0⟩, none, none, none, none], -1, false⟩ 3 = (⟨cap, [none, none, none, some ⟨f, f.length⟩, none, none, none, none], -1, false⟩, 0) := rfl
  have h3 : renameD ⟨cap, [none, none, none, some ⟨f, f.length⟩, none, none, none, none], -1, false⟩ 3 (3 - 2) = (dk1 cap f, 0) := by
    have h4 : fileOf ⟨cap, [none, none, none, some ⟨f, f.length⟩, none, none, none, none], -1, false⟩ 3 = some ⟨f, f.length⟩ := rfl
    have ha : askE ⟨cap, [none, none, none, some ⟨f, f.length⟩, none, none, none, none], -1, false⟩ 3 = 0 := rfl
    have hb : askE ⟨cap, [none, none, none, some ⟨f, f.length⟩, none, none, none, none], -1, false⟩ (3 - 2) = 0 := rfl
    rw [renameD, ha, hb, if_neg (by simp), if_neg (by simp), h4, if_neg (by simp), if_neg (by simp), if_neg (by show ¬ ((-1 : Int) = 0); decide)]
    rfl
  have hq : (fileOf (dk0 cap) 3).isSome = false := rfl
  rw [makeD, hq, if_neg (by simp)]
  simp only [Bool.false_eq_true, if_false, h1, h2, ne_eq, not_true_eq_false]
  exact h3
theorem create_long {cap : Int} {img : List UInt8} (h : 60000 < img.length + 4) : createL (dk0 cap) img = (dk0 cap, ⟨2, 0, [], [], false⟩, 4) := by
  rw [createL, compactL, if_neg (by simp), if_pos h]
theorem create_full {cap : Int} {img : List UInt8} (h : ¬ 60000 < img.length + 4) (hc : cap < (11 + img.length : Nat)) : createL (dk0 cap) img = (dk0 cap, ⟨2, 0, [], [], false⟩, 5) := by
  have hu : used (dk0 cap).fs = 0 := rfl
  have hz : szF (fileOf (dk0 cap) 3) = 0 := rfl
  rw [createL, compactL, if_neg (by simp), if_neg h, hu, hz, if_pos (.inr (by show cap - ((0 : Nat) : Int) + ((0 : Nat) : Int) < _; omega))]
theorem create_ok {cap : Int} {img : List UInt8} (h : ¬ 60000 < img.length + 4) (hc : ¬ cap < (11 + img.length : Nat)) : createL (dk0 cap) img = (dk1 cap (headF 1 img), ⟨1, 1, img, [], false⟩, 0) := by
  have hu : used (dk0 cap).fs = 0 := rfl
  have hz : szF (fileOf (dk0 cap) 3) = 0 := rfl
  have hm := make0 (cap := cap) (f := headF (0 + 1) img) (by rw [headF_len]; omega)
  rw [createL, compactL, if_neg (by simp), if_neg h, hu, hz, if_neg (by rintro (hx | hx); · exact absurd hx (by decide)
                                                                        · exact hc (by show cap < _; have : cap - ((0 : Nat) : Int) + ((0 : Nat) : Int) < ((11 + img.length : Nat) : Int) := hx; omega))]
  simp only [hm, ne_eq, not_true_eq_false, if_false]
  have hq : (fileOf (dk1 cap (headF (0 + 1) img)) 2).isSome = false := rfl
  rw [hq, if_neg (by simp)]
  rfl
theorem app_long (D : Dk) {img b : List UInt8} (h : b.length < 1 ∨ 4000 < b.length) : appendL D ⟨1, 1, img, [], false⟩ b = (D, ⟨1, 1, img, [], false⟩, 4) := by
  rw [appendL, if_neg (by simp), if_pos h]
theorem app_full {cap : Int} {f img b : List UInt8} (h : ¬ (b.length < 1 ∨ 4000 < b.length)) (hr : cap - (f.length : Int) < (b.length : Int) + 7) : appendL (dk1 cap f) ⟨1, 1, img, [], false⟩ b = (dk1 cap f, ⟨1, 1, img, [], false⟩, 5) := by
  have h1 : appendD (dk1 cap f) 1 (frameOf b) = (dk1 cap f, 5) := by
    have ha : askE (dk1 cap f) 1 = 0 := rfl
    rw [appendD, ha, if_neg (by simp), used1, frameOf_len, if_pos (by show ((7 + b.length : Nat) : Int) > cap - _; omega)]
  rw [appendL, if_neg (by simp), if_neg h]
  simp only [h1]
  rfl
theorem app_ok {cap : Int} {f img b : List UInt8} (h : ¬ (b.length < 1 ∨ 4000 < b.length)) (hr : ¬ cap - (f.length : Int) < (b.length : Int) + 7) : appendL (dk1 cap f) ⟨1, 1, img, [], false⟩ b = (dk1 cap (f ++ frameOf b), ⟨1, 1, img, [b], false⟩, 0) := by
  have h1 : appendD (dk1 cap f) 1 (frameOf b) = (⟨cap, [none, some ⟨f ++ frameOf b, f.length⟩, none, none, none, none, none, none], -1, false⟩, 0) := by
    have ha : askE (dk1 cap f) 1 = 0 := rfl
    rw [appendD, ha, if_neg (by simp), used1, frameOf_len, if_neg (by show ¬ ((7 + b.length : Nat) : Int) > cap - _; omega), if_neg (by show ¬ ((-1 : Int) = 0); decide)]
    rfl
  have h2 : syncD ⟨cap, [none, some ⟨f ++ frameOf b, f.length⟩, none, none, none, none, none, none], -1, false⟩ 1 = (dk1 cap (f ++ frameOf b), 0) := rfl
  rw [appendL, if_neg (by simp), if_neg h]
  simp only [h1, h2]
  rfl
theorem awake04_ok (h0 : Heap) : CallsH Try.prog 34 [] h0 fun v h' => v = .bool true ∧ Fr h0 h' [] := by
  have S := St.nil h0
  (refine enterK c_recouplaw04_awake (Nat.le_of_ble_eq_true rfl) fun K hK => ?_; (try simp (maxSteps := 1000000) (disch := first | omega | assumption | exact Nat.le_of_ble_eq_true rfl) only [go_sem, ↓mwp_block, simprocAttr, ir_recouplaw04_awake]))
  refine call_intro (New_ok 1000 S) ?_
  clear S
  rintro _ h (⟨_, _, d, rfl, S⟩ | ⟨hn, _⟩)
  case inr => exact absurd ⟨by decide, by decide⟩ hn
  have S : St h0 h (diskA d (dk0 1000) :: []) := S
  (try simp (maxSteps := 1000000) (disch := first | omega | assumption | exact Nat.le_of_ble_eq_true rfl) only [go_sem, ↓mwp_block, simprocAttr, zerosL])
  (refine st_alloc S ?_; clear S; intro b h S; (try simp only [splice_cons, splice_nil, List.set_cons_zero, List.set_cons_succ, Nat.zero_add, Nat.reduceAdd, List.cons_append, List.nil_append] at S); ((try clear F); have F := S.all; (try simp only [all_cons, all_nil, says_cell, and_true] at F)))
  (try simp (maxSteps := 1000000) (disch := first | omega | assumption | exact Nat.le_of_ble_eq_true rfl) only [go_sem, ↓mwp_block, simprocAttr])
  refine any_b2b (e := 5) rfl (by kernel_rfl) (by kernel_rfl) rfl S ?_
  clear S F
  intro h S
  (try simp (maxSteps := 1000000) (disch := first | omega | assumption | exact Nat.le_of_ble_eq_true rfl) only [go_sem, ↓mwp_block, simprocAttr])
  refine call_intro (Create_ok (img := [105]) (dk0_ok ⟨by decide, by decide⟩) rfl (find0 _) S.p1 (fun h' S => St.markArr (enc := bEnc) (sz := 1) (ys := [105]) bEnc_len S) (by decide)) ?_
  clear S
  rw [create_ok (by decide) (by decide)]
  rintro _ h (⟨_, p, rfl, S⟩ | ⟨hn, _⟩)
  case inr => exact absurd rfl hn
  simp only at S
  (try simp (maxSteps := 1000000) (disch := first | omega | assumption | exact Nat.le_of_ble_eq_true rfl) only [go_sem, ↓mwp_block, simprocAttr, zerosL])
  (refine st_alloc S ?_; clear S; intro b2 h S; (try simp only [splice_cons, splice_nil, List.set_cons_zero, List.set_cons_succ, Nat.zero_add, Nat.reduceAdd, List.cons_append, List.nil_append] at S); ((try clear F); have F := S.all; (try simp only [all_cons, all_nil, says_cell, and_true] at F)))
  (try simp (maxSteps := 1000000) (disch := first | omega | assumption | exact Nat.le_of_ble_eq_true rfl) only [go_sem, ↓mwp_block, simprocAttr])
  refine any_b2b (e := 5) rfl (by kernel_rfl) (by kernel_rfl) rfl S ?_
  clear S F
  intro h S
  (try simp (maxSteps := 1000000) (disch := first | omega | assumption | exact Nat.le_of_ble_eq_true rfl) only [go_sem, ↓mwp_block, simprocAttr])
  refine call_intro (AppendL_ok (b := [97]) (dk1_ok ⟨by decide, by decide⟩ (by rw [headF_len]; decide)) (by decide) S.p2.p2 (fun h' S => St.markArr (enc := bEnc) (sz := 1) (ys := [97]) bEnc_len S) (by decide)) ?_
  clear S
  rw [app_ok (by decide) (by rw [headF_len]; decide)]
  rintro _ h ⟨rfl, S⟩
  simp only at S
  (try simp (maxSteps := 1000000) (disch := first | omega | assumption | exact Nat.le_of_ble_eq_true rfl) only [go_sem, ↓mwp_block, simprocAttr])
  refine call_intro (LenL_ok S) ?_
  rintro _ _ ⟨rfl, rfl⟩
  (try simp (maxSteps := 1000000) (disch := first | omega | assumption | exact Nat.le_of_ble_eq_true rfl) only [go_sem, ↓mwp_block, simprocAttr])
  refine call_intro (GenL_ok S) ?_
  rintro _ _ ⟨rfl, rfl⟩
  (try simp (maxSteps := 1000000) (disch := first | omega | assumption | exact Nat.le_of_ble_eq_true rfl) only [go_sem, ↓mwp_block, simprocAttr])
  exact hK _ _ ⟨rfl, S.fr⟩
end Go.Proofs.Ytnjjdpeglkiifaa.MX

/- The law LogFull: the walk. -/
namespace Go.Proofs.Ytnjjdpeglkiifaa.MX
open Go Go.Proofs
set_option linter.unusedSimpArgs false
set_option linter.unusedVariables false
set_option maxHeartbeats 16000000
theorem LogFull_ok' (k : Int) (A : Option Addr) (c : Nat) (b : List UInt8) (A' : Option Addr) (c' : Nat) (b' : List UInt8) (h0 : Heap) (hk : 0 ≤ k ∧ k < 65536) (ha : Arr bEnc 1 h0 A b) (hc : b.length ≤ c) (hc2 : c ≤ maxLen) (ha' : Arr bEnc 1 h0 A' b') (hc' : b'.length ≤ c') (hc2' : c' ≤ maxLen) :
    CallsH Try.prog 11 [.int .u16 k, .slice A b.length c, .slice A' b'.length c'] h0 fun v h' => v = .bool true ∧ Fr h0 h' [] := by
  have hm : maxLen = 9223372036854775807 := rfl
  have wk : IntKind.i64.wrap k = k := wrap_i64 (by omega) (by omega)
  (refine enterK c_recouplaw04_LogFull (Nat.le_of_ble_eq_true rfl) fun K hK => ?_; (try simp (maxSteps := 1000000) (disch := first | omega | assumption | exact Nat.le_of_ble_eq_true rfl) only [go_sem, ↓mwp_block, simprocAttr, ir_recouplaw04_LogFull]))
  refine call_intro (awake04_ok _) ?_
  rintro _ h ⟨rfl, hf⟩
  have S := (St.nil h0).frame hf
  by_cases hl : 70000 < b.length
  · (try simp (maxSteps := 1000000) (disch := first | omega | assumption | exact Nat.le_of_ble_eq_true rfl) only [go_sem, ↓mwp_block, simprocAttr])
    refine call_intro (awake04_ok _) ?_
    rintro _ h ⟨rfl, hf⟩
    (try simp (maxSteps := 1000000) (disch := first | omega | assumption | exact Nat.le_of_ble_eq_true rfl) only [go_sem, ↓mwp_block, simprocAttr])
    exact hK _ _ ⟨rfl, (S.frame hf).fr⟩
  by_cases hl' : 70000 < b'.length
  · (try simp (maxSteps := 1000000) (disch := first | omega | assumption | exact Nat.le_of_ble_eq_true rfl) only [go_sem, ↓mwp_block, simprocAttr])
    refine call_intro (awake04_ok _) ?_
    rintro _ h ⟨rfl, hf⟩
    (try simp (maxSteps := 1000000) (disch := first | omega | assumption | exact Nat.le_of_ble_eq_true rfl) only [go_sem, ↓mwp_block, simprocAttr])
    exact hK _ _ ⟨rfl, (S.frame hf).fr⟩
  (try simp (maxSteps := 1000000) (disch := first | omega | assumption | exact Nat.le_of_ble_eq_true rfl) only [go_sem, ↓mwp_block, simprocAttr, wk])
  refine call_intro (New_ok k S) ?_
  clear S
  rintro _ h (⟨_, _, d, rfl, S⟩ | ⟨hn, _⟩)
  case inr => exact absurd ⟨by omega, by omega⟩ hn
  have S : St h0 h (diskA d (dk0 k) :: []) := S
  (try simp (maxSteps := 1000000) (disch := first | omega | assumption | exact Nat.le_of_ble_eq_true rfl) only [go_sem, ↓mwp_block, simprocAttr])
  refine call_intro (Create_ok (img := b) (dk0_ok ⟨by omega, by omega⟩) rfl (find0 _) S (fun h' S => ha.fr S.fr (by simp)) (by omega)) ?_
  clear S
  have w4 : IntKind.i64.wrap ((b.length : Int) + 4) = b.length + 4 := wrap_i64 (by omega) (by omega)
  have w11 : IntKind.i64.wrap ((b.length : Int) + 11) = b.length + 11 := wrap_i64 (by omega) (by omega)
  have hu : used (dk0 k).fs = 0 := rfl
  have hcap : (dk0 k).cap = k := rfl
  by_cases h4 : 60000 < b.length + 4
  · rw [create_long h4]
    rintro _ h (⟨hn, _⟩ | ⟨_, rfl, S⟩)
    · cases hn
    (try simp (maxSteps := 1000000) (disch := first | omega | assumption | exact Nat.le_of_ble_eq_true rfl) only [go_sem, ↓mwp_block, simprocAttr, w4])
    refine call_intro (Room_ok S (dk0_ok ⟨by omega, by omega⟩)) ?_
    rintro _ _ ⟨rfl, rfl⟩
    rw [hu, hcap]
    (try simp (maxSteps := 1000000) (disch := first | omega | assumption | exact Nat.le_of_ble_eq_true rfl) only [go_sem, ↓mwp_block, simprocAttr, wk])
    exact hK _ _ ⟨rfl, S.fr⟩
  by_cases h11 : k < (11 + b.length : Nat)
  · rw [create_full h4 h11]
    rintro _ h (⟨hn, _⟩ | ⟨_, rfl, S⟩)
    · cases hn
    (try simp (maxSteps := 1000000) (disch := first | omega | assumption | exact Nat.le_of_ble_eq_true rfl) only [go_sem, ↓mwp_block, simprocAttr, w4, w11, wk])
    refine call_intro (Room_ok S (dk0_ok ⟨by omega, by omega⟩)) ?_
    rintro _ _ ⟨rfl, rfl⟩
    rw [hu, hcap]
    (try simp (maxSteps := 1000000) (disch := first | omega | assumption | exact Nat.le_of_ble_eq_true rfl) only [go_sem, ↓mwp_block, simprocAttr, wk])
    exact hK _ _ ⟨rfl, S.fr⟩
  rw [create_ok h4 h11]
  rintro _ h (⟨_, p, rfl, S⟩ | ⟨hn, _⟩)
  case inr => exact absurd rfl hn
  simp only at S
  have hh := headF_len 1 b
  have okd : (dk1 k (headF 1 b)).ok := dk1_ok ⟨by omega, by omega⟩ (by omega)
  generalize headF 1 b = f at *
  (try simp (maxSteps := 1000000) (disch := first | omega | assumption | exact Nat.le_of_ble_eq_true rfl) only [go_sem, ↓mwp_block, simprocAttr, w4, w11, wk])
  refine call_intro (Room_ok S.p1 okd) ?_
  rintro _ _ ⟨rfl, rfl⟩
  rw [used1]
  have hcap1 : ∀ g, (dk1 k g).cap = k := fun _ => rfl
  rw [hcap1]
  (try simp (maxSteps := 1000000) (disch := first | omega | assumption | exact Nat.le_of_ble_eq_true rfl) only [go_sem, ↓mwp_block, simprocAttr])
  refine call_intro (AppendL_ok (b := b') okd (by simp) S (fun h' S => ha'.fr S.fr (by simp)) (by omega)) ?_
  clear S
  by_cases hb : b'.length < 1 ∨ 4000 < b'.length
  · rw [app_long _ hb]
    rintro _ h ⟨rfl, S⟩
    by_cases hb1 : (b'.length : Int) < 1
    · (try simp (maxSteps := 1000000) (disch := first | omega | assumption | exact Nat.le_of_ble_eq_true rfl) only [go_sem, ↓mwp_block, simprocAttr, hb1])
      refine call_intro (Room_ok S.p1 okd) ?_
      rintro _ _ ⟨rfl, rfl⟩
      rw [used1, hcap1]
      (try simp (maxSteps := 1000000) (disch := first | omega | assumption | exact Nat.le_of_ble_eq_true rfl) only [go_sem, ↓mwp_block, simprocAttr])
      refine call_intro (LenL_ok S) ?_
      rintro _ _ ⟨rfl, rfl⟩
      (try simp (maxSteps := 1000000) (disch := first | omega | assumption | exact Nat.le_of_ble_eq_true rfl) only [go_sem, ↓mwp_block, simprocAttr])
      exact hK _ _ ⟨rfl, S.fr⟩
    · have hb2 : 4000 < b'.length := by omega
      (try simp (maxSteps := 1000000) (disch := first | omega | assumption | exact Nat.le_of_ble_eq_true rfl) only [go_sem, ↓mwp_block, simprocAttr, hb1, hb2])
      refine call_intro (Room_ok S.p1 okd) ?_
      rintro _ _ ⟨rfl, rfl⟩
      rw [used1, hcap1]
      (try simp (maxSteps := 1000000) (disch := first | omega | assumption | exact Nat.le_of_ble_eq_true rfl) only [go_sem, ↓mwp_block, simprocAttr])
      refine call_intro (LenL_ok S) ?_
      rintro _ _ ⟨rfl, rfl⟩
      (try simp (maxSteps := 1000000) (disch := first | omega | assumption | exact Nat.le_of_ble_eq_true rfl) only [go_sem, ↓mwp_block, simprocAttr])
      exact hK _ _ ⟨rfl, S.fr⟩
  have hb1 : ¬ (b'.length : Int) < 1 := by omega
  have hb2 : ¬ 4000 < (b'.length : Int) := by omega
  have w7 : IntKind.i64.wrap ((b'.length : Int) + 7) = b'.length + 7 := wrap_i64 (by omega) (by omega)
  by_cases hr : k - (f.length : Int) < (b'.length : Int) + 7
  · rw [app_full hb hr]
    rintro _ h ⟨rfl, S⟩
    (try simp (maxSteps := 1000000) (disch := first | omega | assumption | exact Nat.le_of_ble_eq_true rfl) only [go_sem, ↓mwp_block, simprocAttr, hb1, hb2, w7, hr])
    refine call_intro (Room_ok S.p1 okd) ?_
    rintro _ _ ⟨rfl, rfl⟩
    rw [used1, hcap1]
    (try simp (maxSteps := 1000000) (disch := first | omega | assumption | exact Nat.le_of_ble_eq_true rfl) only [go_sem, ↓mwp_block, simprocAttr])
    refine call_intro (LenL_ok S) ?_
    rintro _ _ ⟨rfl, rfl⟩
    (try simp (maxSteps := 1000000) (disch := first | omega | assumption | exact Nat.le_of_ble_eq_true rfl) only [go_sem, ↓mwp_block, simprocAttr])
    exact hK _ _ ⟨rfl, S.fr⟩
  rw [app_ok hb hr]
  rintro _ h ⟨rfl, S⟩
  have hfl : (f ++ frameOf b').length = f.length + (7 + b'.length) := by rw [List.length_append, frameOf_len]
  have okd2 : (dk1 k (f ++ frameOf b')).ok := dk1_ok ⟨by omega, by omega⟩ (by omega)
  generalize f ++ frameOf b' = f2 at *
  have w1 : IntKind.i64.wrap (k - (f.length : Int) - b'.length) = k - (f.length : Int) - b'.length := wrap_i64 (by omega) (by omega)
  have w2 : IntKind.i64.wrap (k - (f.length : Int) - b'.length - 7) = k - (f.length : Int) - b'.length - 7 := wrap_i64 (by omega) (by omega)
  have hq : k - (f2.length : Int) = k - (f.length : Int) - b'.length - 7 := by omega
  (try simp (maxSteps := 1000000) (disch := first | omega | assumption | exact Nat.le_of_ble_eq_true rfl) only [go_sem, ↓mwp_block, simprocAttr, hb1, hb2, w7, hr])
  refine call_intro (Room_ok S.p1 okd2) ?_
  rintro _ _ ⟨rfl, rfl⟩
  rw [used1, hcap1]
  (try simp (maxSteps := 1000000) (disch := first | omega | assumption | exact Nat.le_of_ble_eq_true rfl) only [go_sem, ↓mwp_block, simprocAttr, w1, w2, hq])
  refine call_intro (LenL_ok S) ?_
  rintro _ _ ⟨rfl, rfl⟩
  (try simp (maxSteps := 1000000) (disch := first | omega | assumption | exact Nat.le_of_ble_eq_true rfl) only [go_sem, ↓mwp_block, simprocAttr])
  refine call_intro (Safe_ok 1 S.p1) ?_
  rintro _ _ ⟨rfl, rfl⟩
  (try simp (maxSteps := 1000000) (disch := first | omega | assumption | exact Nat.le_of_ble_eq_true rfl) only [go_sem, ↓mwp_block, simprocAttr])
  refine call_intro (Size_ok 1 S.p1) ?_
  rintro _ _ ⟨rfl, rfl⟩
  have hs : safeF (fileOf (dk1 k f2) 1) = szF (fileOf (dk1 k f2) 1) := rfl
  rw [hs]
  (try simp (maxSteps := 1000000) (disch := first | omega | assumption | exact Nat.le_of_ble_eq_true rfl) only [go_sem, ↓mwp_block, simprocAttr])
  exact hK _ _ ⟨rfl, S.fr⟩
theorem LogFull_ok (k : Int) (A : Option Addr) (c : Nat) (xs : List U8) (A' : Option Addr) (c' : Nat) (xs' : List U8) (h : Heap) (hk : 0 ≤ k ∧ k < 65536) (ha : Arr U8.enc 1 h A xs) (h1 : xs.length ≤ c) (h2 : c ≤ maxLen) (hok : ∀ x ∈ xs, x.ok) (ha' : Arr U8.enc 1 h A' xs') (h1' : xs'.length ≤ c') (h2' : c' ≤ maxLen) (hok' : ∀ x ∈ xs', x.ok) :
    CallsH Try.prog 11 [.int .u16 k, .slice A xs.length c, .slice A' xs'.length c'] h fun v h' => v = .bool true ∧ Fr h h' [] := by
  have := LogFull_ok' k A c (xs.map U8.n) A' c' (xs'.map U8.n) h hk (arrU8 ha) (by simpa using h1) h2 (arrU8 ha') (by simpa using h1') h2'
  rwa [List.length_map, List.length_map] at this
end Go.Proofs.Ytnjjdpeglkiifaa.MX
