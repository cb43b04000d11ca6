/- Texts in one file: Lg5, MXY, Fr7, By3, Fr9. -/
import Derived.Test.YtnjjdpeglkiifaaK21
import Derived.Test.YtnjjdpeglkiifaaK13
import Derived.Test.YtnjjdpeglkiifaaK15
import Derived.Test.YtnjjdpeglkiifaaK11
import Derived.Test.YtnjjdpeglkiifaaK12

/- The log: Compact, Create. -/
namespace Go.Proofs.Ytnjjdpeglkiifaa.MX
open Go Go.Proofs
set_option linter.unusedSimpArgs false
set_option linter.unusedVariables false
set_option maxHeartbeats 8000000
theorem make_okn {D : Dk} (ok : D.ok) (file : Int) (f : List UInt8) : (makeD D file f).1.ok := by
  unfold makeD
  split
  · exact remove_okn ok 3
  · have ok1 : (if (fileOf D 3).isSome then (removeD D 3).1 else D : Dk).ok := by
      split
      · exact remove_okn ok 3
      · exact ok
    simp only
    generalize (if (fileOf D 3).isSome then (removeD D 3).1 else D : Dk) = D1 at *
    split
    · exact append_okn ok1 3 f
    · split
      · exact sync_okn (append_okn ok1 3 f) 3
      · exact rename_okn (sync_okn (append_okn ok1 3 f) 3) 3 (3 - file)
section
variable {h0 h : Heap} {l : List HP} {p d : Nat} {D : Dk} {L : Lg}
theorem CompactL_ok {A : Option Addr} {c : Nat} {img : List UInt8} (ok : D.ok) (hg : 0 ≤ L.gen ∧ L.gen < 4294967295) (hf : I64 (3 - L.file)) (S : St h0 h (logA p d L :: diskA d D :: l)) (ha : ∀ h', St h0 h' l → Arr bEnc 1 h' A img) (hl : img.length < 1000000) :
    CallsH Try.prog 42 [.pointer (some ⟨p, 0, none⟩), .slice A img.length c] h fun v h' => v = .int .i64 (compactL D L img).2.2 ∧ St h0 h' (logA p d (compactL D L img).2.1 :: diskA d (compactL D L img).1 :: l) := by
  have S0 := S
  obtain ⟨im, rs, S1⟩ := logA_open.1 S
  have F := S1.all
  simp only [all_cons, all_nil, says_cell, and_true] at F
  have wl : IntKind.i64.wrap ((img.length : Int) + 4) = (img.length : Int) + 4 := wrap_i64 (by omega) (by omega)
  have w3 : IntKind.i64.wrap (3 - L.file) = 3 - L.file := wrap_i64 hf.1 hf.2
  have wg : IntKind.i64.wrap (L.gen + 1) = L.gen + 1 := wrap_i64 (by omega) (by omega)
  cases ho : L.over with
  | true =>
    rw [ho] at F
    (refine enterK c_log_Log_Compact (Nat.le_of_ble_eq_true rfl) fun K hK => ?_; (try simp (maxSteps := 1000000) (disch := first | omega | assumption | exact Nat.le_of_ble_eq_true rfl) only [go_sem, ↓mwp_block, simprocAttr, ir_log_Log_Compact]))
    (try simp (maxSteps := 1000000) (disch := first | omega | assumption | exact Nat.le_of_ble_eq_true rfl) only [go_sem, ↓mwp_block, simprocAttr, F])
    refine hK _ _ ?_
    simp only [compactL, ho, if_true]
    exact ⟨trivial, S0⟩
  | false =>
    rw [ho] at F
    by_cases h1 : (60000 : Int) < (img.length : Int) + 4
    · (refine enterK c_log_Log_Compact (Nat.le_of_ble_eq_true rfl) fun K hK => ?_; (try simp (maxSteps := 1000000) (disch := first | omega | assumption | exact Nat.le_of_ble_eq_true rfl) only [go_sem, ↓mwp_block, simprocAttr, ir_log_Log_Compact]))
      (try simp (maxSteps := 1000000) (disch := first | omega | assumption | exact Nat.le_of_ble_eq_true rfl) only [go_sem, ↓mwp_block, simprocAttr, F, wl, h1])
      refine hK _ _ ?_
      simp only [compactL, ho, Bool.false_eq_true, if_false, if_pos (show 60000 < img.length + 4 by omega)]
      exact ⟨trivial, S0⟩
    have hdef : compactL D L img = if 2147483648 ≤ L.gen ∨ D.cap - used D.fs + szF (fileOf D 3) < (11 + img.length : Nat) then (D, L, 5)
      else if (makeD D L.file (headF (L.gen + 1) img)).2 ≠ 0 then ((makeD D L.file (headF (L.gen + 1) img)).1, overL L (makeD D L.file (headF (L.gen + 1) img)).2, (makeD D L.file (headF (L.gen + 1) img)).2)
      else if (fileOf (makeD D L.file (headF (L.gen + 1) img)).1 L.file).isSome then
        ((removeD (makeD D L.file (headF (L.gen + 1) img)).1 L.file).1, overL ⟨3 - L.file, L.gen + 1, img, [], L.over⟩ (removeD (makeD D L.file (headF (L.gen + 1) img)).1 L.file).2, (removeD (makeD D L.file (headF (L.gen + 1) img)).1 L.file).2)
      else ((makeD D L.file (headF (L.gen + 1) img)).1, ⟨3 - L.file, L.gen + 1, img, [], L.over⟩, 0) := by
      rw [compactL, ho, if_neg (by simp), if_neg (by omega)]
    (refine enterK c_log_Log_Compact (Nat.le_of_ble_eq_true rfl) fun K hK => ?_; (try simp (maxSteps := 1000000) (disch := first | omega | assumption | exact Nat.le_of_ble_eq_true rfl) only [go_sem, ↓mwp_block, simprocAttr, ir_log_Log_Compact]))
    (try simp (maxSteps := 1000000) (disch := first | omega | assumption | exact Nat.le_of_ble_eq_true rfl) only [go_sem, ↓mwp_block, simprocAttr, F, wl, h1])
    refine call_intro (next_ok hg S (fun h' S => ha h' S.tl.tl) (by omega)) ?_
    clear S S1 F S0
    rintro _ h ⟨f, rfl, S⟩
    obtain ⟨B, e, rfl⟩ := S.sl
    obtain ⟨_, hce, _⟩ := S.cap
    have hfl := headF_len (L.gen + 1) img
    obtain ⟨im, rs, S1⟩ := logA_open.1 S.p1
    have F := S1.all
    simp only [all_cons, all_nil, says_cell, and_true] at F
    by_cases h2 : (2147483648 : Int) ≤ L.gen
    · rw [if_pos (.inl h2)] at hdef
      rw [hdef] at hK
      (try simp (maxSteps := 1000000) (disch := first | omega | assumption | exact Nat.le_of_ble_eq_true rfl) only [go_sem, ↓mwp_block, simprocAttr])
      refine draw_eq ?_
      (try simp (maxSteps := 1000000) (disch := first | omega | assumption | exact Nat.le_of_ble_eq_true rfl) only [go_sem, ↓mwp_block, simprocAttr, F, h2])
      exact hK _ _ ⟨rfl, S.tl⟩
    (try simp (maxSteps := 1000000) (disch := first | omega | assumption | exact Nat.le_of_ble_eq_true rfl) only [go_sem, ↓mwp_block, simprocAttr])
    refine draw_eq ?_
    (try simp (maxSteps := 1000000) (disch := first | omega | assumption | exact Nat.le_of_ble_eq_true rfl) only [go_sem, ↓mwp_block, simprocAttr, F, h2])
    refine call_intro (Room_ok S.p2 ok) ?_
    rintro _ _ ⟨rfl, rfl⟩
    try refine ⟨rfl, ?_⟩
    (try simp (maxSteps := 1000000) (disch := first | omega | assumption | exact Nat.le_of_ble_eq_true rfl) only [go_sem, ↓mwp_block, simprocAttr, F])
    refine call_intro (Size_ok 3 S.p2) ?_
    rintro _ _ ⟨rfl, rfl⟩
    have hcap := ok.cap
    have hroom := ok.room
    have hsz : szF (fileOf D 3) ≤ 1048576 := by
      cases hf3 : fileOf D 3 with
      | none => simp [szF]
      | some f3 => exact file_le ok hf3
    have w5 : IntKind.i64.wrap (D.cap - used D.fs + szF (fileOf D 3)) = D.cap - used D.fs + szF (fileOf D 3) := wrap_i64 (by omega) (by omega)
    by_cases h3 : D.cap - used D.fs + szF (fileOf D 3) < ((headF (L.gen + 1) img).length : Int)
    · rw [if_pos (.inr (by rw [← hfl]; exact h3))] at hdef
      rw [hdef] at hK
      (try simp (maxSteps := 1000000) (disch := first | omega | assumption | exact Nat.le_of_ble_eq_true rfl) only [go_sem, ↓mwp_block, simprocAttr, w5, h3])
      exact hK _ _ ⟨rfl, S.tl⟩
    rw [if_neg (by rw [← hfl]; rintro (hx | hx) <;> contradiction)] at hdef
    (try simp (maxSteps := 1000000) (disch := first | omega | assumption | exact Nat.le_of_ble_eq_true rfl) only [go_sem, ↓mwp_block, simprocAttr, w5, h3])
    refine call_intro (make_ok ok hf S.p2.p2 (fun h' S => S.arr bEnc_len) hce (by omega)) ?_
    clear S S1 F
    rintro _ h ⟨rfl, S⟩
    have ok1 := make_okn ok L.file (headF (L.gen + 1) img)
    generalize makeD D L.file (headF (L.gen + 1) img) = R at *
    obtain ⟨D1, e1⟩ := R
    simp only at hdef ok1 S ⊢
    have S := S.p2.tl
    by_cases he1 : e1 = 0
    case neg =>
      rw [if_pos he1] at hdef
      rw [hdef] at hK
      (try simp (maxSteps := 1000000) (disch := first | omega | assumption | exact Nat.le_of_ble_eq_true rfl) only [go_sem, ↓mwp_block, simprocAttr, he1])
      refine call_intro (done_ok e1 S) ?_
      rintro _ h ⟨rfl, S⟩
      (try simp (maxSteps := 1000000) (disch := first | omega | assumption | exact Nat.le_of_ble_eq_true rfl) only [go_sem, ↓mwp_block, simprocAttr])
      exact hK _ _ ⟨rfl, S⟩
    rw [if_neg (by rw [he1]; simp)] at hdef
    obtain ⟨im, rs, S⟩ := logA_open.1 S
    ((try clear F); have F := S.all; (try simp only [all_cons, all_nil, says_cell, and_true] at F))
    have hp2 := st_rd1 (off := 2) S
    simp only [List.getElem?_cons_succ, List.getElem?_cons_zero] at hp2
    have rx : ∀ K t, readT (fun h' => rd1 h' (.pointer (some ⟨p, 2, none⟩)) = some (.int .i64 L.gen)) (fun h' => rd1 h' (.pointer (some ⟨p, 2, none⟩))) K t = K (.int .i64 L.gen) := fun K t => readT_v _ hp2
    (try simp (maxSteps := 1000000) (disch := first | omega | assumption | exact Nat.le_of_ble_eq_true rfl) only [go_sem, ↓mwp_block, simprocAttr, he1, F])
    refine draw_inv (fun h' => rd1 h' (.pointer (some ⟨p, 2, none⟩)) = some (.int .i64 L.gen)) hp2 ?_
    (try simp (maxSteps := 1000000) (disch := first | omega | assumption | exact Nat.le_of_ble_eq_true rfl) only [go_sem, ↓mwp_block, simprocAttr, rx, w3, wg])
    refine call_intro (CloneB_ok S (ha _ S.tl.tl.tl.tl) rfl (arr_noneB (ha _ S.tl.tl.tl.tl)) (by omega)) ?_
    clear S rx hp2 F
    rintro v h ⟨S, _⟩
    obtain ⟨Bx, ex, rfl⟩ := S.sl
    refine ⟨st_rd1 (off := 2) S.p1, ?_⟩
    (try simp (maxSteps := 1000000) (disch := first | omega | assumption | exact Nat.le_of_ble_eq_true rfl) only [go_sem, ↓mwp_block, simprocAttr])
    refine st_store S.p1 rfl rfl (Nat.le_of_ble_eq_true rfl) ?_
    clear S
    intro h S
    (try simp only [splice_cons, splice_nil, List.set_cons_zero, List.set_cons_succ, Nat.zero_add, Nat.reduceAdd, List.cons_append, List.nil_append] at S)
    (try simp (maxSteps := 1000000) (disch := first | omega | assumption | exact Nat.le_of_ble_eq_true rfl) only [go_sem, ↓mwp_block, simprocAttr])
    refine st_store S rfl rfl (Nat.le_of_ble_eq_true rfl) ?_
    clear S
    intro h S
    (try simp only [splice_cons, splice_nil, List.set_cons_zero, List.set_cons_succ, Nat.zero_add, Nat.reduceAdd, List.cons_append, List.nil_append] at S)
    (try simp (maxSteps := 1000000) (disch := first | omega | assumption | exact Nat.le_of_ble_eq_true rfl) only [go_sem, ↓mwp_block, simprocAttr])
    refine st_store S rfl rfl (Nat.le_of_ble_eq_true rfl) ?_
    clear S
    intro h S
    (try simp only [splice_cons, splice_nil, List.set_cons_zero, List.set_cons_succ, Nat.zero_add, Nat.reduceAdd, List.cons_append, List.nil_append] at S)
    (try simp (maxSteps := 1000000) (disch := first | omega | assumption | exact Nat.le_of_ble_eq_true rfl) only [go_sem, ↓mwp_block, simprocAttr])
    refine st_store S rfl rfl (Nat.le_of_ble_eq_true rfl) ?_
    clear S
    intro h S
    (try simp only [splice_cons, splice_nil, List.set_cons_zero, List.set_cons_succ, Nat.zero_add, Nat.reduceAdd, List.cons_append, List.nil_append] at S)
    have S : St h0 h (logA p d ⟨3 - L.file, L.gen + 1, img, [], L.over⟩ :: diskA d D1 :: l) := by
      have S1 := own_img S.p1
      have S2 : St h0 h (lsA (.slice none 0 0) [] :: _) := lsA_open.2 ⟨[], rfl, S1.nilS⟩
      refine logA_open.2 ⟨.slice Bx img.length ex, .slice none 0 0, ?_⟩
      have S3 := S2.p3.tl.p3.tl
      show St h0 h (cellA p [.pointer (some ⟨d, 0, none⟩), .int .i64 (3 - L.file), .int .i64 (L.gen + 1), .slice Bx img.length ex, .slice none 0 0, .bool L.over] 115 :: imgA (.slice Bx img.length ex) img :: lsA (.slice none 0 0) [] :: diskA d D1 :: l)
      (refine St.perm S3 ?_; repeat (with_reducible first | exact List.Perm.refl _ | refine pm0 ?_ | refine pm1 ?_ | refine pm2 ?_ | refine pm3 ?_ | refine pm4 ?_ | refine pm5 ?_ | refine pm6 ?_ | refine pm7 ?_ | refine pm8 ?_ | refine pm9 ?_ | refine pm10 ?_ | refine pm11 ?_ | refine pm12 ?_))
    obtain ⟨im, rs, S1⟩ := logA_open.1 S
    have F := S1.all
    simp only [all_cons, all_nil, says_cell, and_true] at F
    (try simp (maxSteps := 1000000) (disch := first | omega | assumption | exact Nat.le_of_ble_eq_true rfl) only [go_sem, ↓mwp_block, simprocAttr, F])
    refine call_intro (Has_ok L.file S.p1) ?_
    rintro _ _ ⟨rfl, rfl⟩
    cases hq : (fileOf D1 L.file).isSome with
    | false =>
      rw [hq] at hdef
      rw [if_neg (by simp)] at hdef
      rw [hdef] at hK
      (try simp (maxSteps := 1000000) (disch := first | omega | assumption | exact Nat.le_of_ble_eq_true rfl) only [go_sem, ↓mwp_block, simprocAttr])
      exact hK _ _ ⟨rfl, S⟩
    | true =>
      rw [hq] at hdef
      rw [if_pos rfl] at hdef
      rw [hdef] at hK
      (try simp (maxSteps := 1000000) (disch := first | omega | assumption | exact Nat.le_of_ble_eq_true rfl) only [go_sem, ↓mwp_block, simprocAttr, F])
      refine call_intro (Remove_ok L.file S.p1 ok1) ?_
      clear S S1 F
      rintro _ h ⟨rfl, S⟩
      (try simp (maxSteps := 1000000) (disch := first | omega | assumption | exact Nat.le_of_ble_eq_true rfl) only [go_sem, ↓mwp_block, simprocAttr])
      refine call_intro (done_ok _ S.p1) ?_
      clear S
      rintro _ h ⟨rfl, S⟩
      (try simp (maxSteps := 1000000) (disch := first | omega | assumption | exact Nat.le_of_ble_eq_true rfl) only [go_sem, ↓mwp_block, simprocAttr])
      exact hK _ _ ⟨rfl, S⟩
/-- Create, on a disk that has no log. -/
def createL (D : Dk) (img : List UInt8) : Dk × Lg × Int := compactL D ⟨2, 0, [], [], false⟩ img
theorem Create_ok {A : Option Addr} {c : Nat} {img : List UInt8} (ok : D.ok) (hlo : D.lost = false) (hno : findL D = lg0) (S : St h0 h (diskA d D :: l)) (ha : ∀ h', St h0 h' l → Arr bEnc 1 h' A img) (hl : img.length < 1000000) :
    CallsH Try.prog 36 [.pointer (some ⟨d, 0, none⟩), .slice A img.length c] h fun v h' =>
      ((createL D img).2.2 = 0 ∧ ∃ p, v = .tuple #[.pointer (some ⟨p, 0, none⟩), .int .i64 0] ∧ St h0 h' (logA p d (createL D img).2.1 :: diskA d (createL D img).1 :: l)) ∨
      ((createL D img).2.2 ≠ 0 ∧ v = .tuple #[.pointer none, .int .i64 (createL D img).2.2] ∧ St h0 h' (diskA d (createL D img).1 :: l)) := by
  (refine enterK c_log_Create (Nat.le_of_ble_eq_true rfl) fun K hK => ?_; (try simp (maxSteps := 1000000) (disch := first | omega | assumption | exact Nat.le_of_ble_eq_true rfl) only [go_sem, ↓mwp_block, simprocAttr, ir_log_Create]))
  refine call_intro (find_ok ok hlo S) ?_
  clear S
  rintro _ h ⟨p, rfl, S⟩
  rw [hno] at S
  obtain ⟨im, rs, S⟩ := logA_open.1 S
  simp only [lg0] at S
  ((try clear F); have F := S.all; (try simp only [all_cons, all_nil, says_cell, and_true] at F))
  (try simp (maxSteps := 1000000) (disch := first | omega | assumption | exact Nat.le_of_ble_eq_true rfl) only [go_sem, ↓mwp_block, simprocAttr, F])
  refine st_store S rfl rfl (Nat.le_of_ble_eq_true rfl) ?_
  clear S F
  intro h S
  (try simp only [splice_cons, splice_nil, List.set_cons_zero, List.set_cons_succ, Nat.zero_add, Nat.reduceAdd, List.cons_append, List.nil_append] at S)
  have S : St h0 h (logA p d ⟨2, 0, [], [], false⟩ :: diskA d D :: l) := logA_open.2 ⟨im, rs, S⟩
  (try simp (maxSteps := 1000000) (disch := first | omega | assumption | exact Nat.le_of_ble_eq_true rfl) only [go_sem, ↓mwp_block, simprocAttr])
  refine call_intro (CompactL_ok (L := ⟨2, 0, [], [], false⟩) ok ⟨by decide, by decide⟩ ⟨by decide, by decide⟩ S ha hl) ?_
  clear S
  rintro _ h ⟨rfl, S⟩
  have hcr : compactL D ⟨2, 0, [], [], false⟩ img = createL D img := rfl
  rw [hcr] at S ⊢
  generalize createL D img = R at *
  obtain ⟨D1, L1, e⟩ := R
  simp only at S hK ⊢
  by_cases he : e = 0
  · (try simp (maxSteps := 1000000) (disch := first | omega | assumption | exact Nat.le_of_ble_eq_true rfl) only [go_sem, ↓mwp_block, simprocAttr, he])
    exact hK _ _ (.inl ⟨he, p, rfl, S⟩)
  · (try simp (maxSteps := 1000000) (disch := first | omega | assumption | exact Nat.le_of_ble_eq_true rfl) only [go_sem, ↓mwp_block, simprocAttr, he])
    exact hK _ _ (.inr ⟨he, rfl, S.tl⟩)
end
end Go.Proofs.Ytnjjdpeglkiifaa.MX

/- Slices that are made. -/
namespace Go.Proofs.Ytnjjdpeglkiifaa.MX
open Go Go.Proofs
set_option linter.unusedSimpArgs false
set_option linter.unusedVariables false
theorem zeros_flat {α : Type} {enc : α → List Value} (z : List Value) (x : α) (hz : enc x = z) : ∀ n, zerosL z n = (List.replicate n x).flatMap enc
  | 0 => rfl
  | n + 1 => by rw [List.replicate_succ, List.flatMap_cons, hz, ← zeros_flat z x hz n]; rfl
theorem st_make {α : Type} {enc : α → List Value} {sz T bytes : Nat} {z : List Value} {h0 h : Heap} {l : List HP} {K : Value → Heap → Prop} {s : Tag h} {t : Tag K} {n : Nat} (x : α) (hsz : ∀ x, (enc x).length = sz) (hz : enc x = z) (S : St h0 h l) (hn : n < 9223372036854775808) (hb : n * bytes ≤ 281474976710656)
    (hk : ∀ v h', St h0 h' (ownA enc sz T v (List.replicate n x) :: l) → K v h') : mkT T bytes z (.int .i64 n) (.int .i64 n) h K s t := by
  refine ⟨⟨by omega, Int.le_refl _, by omega, by rw [← Int.natCast_mul]; exact Int.ofNat_le.2 hb⟩, ?_⟩
  rw [Int.toNat_natCast, zeros_flat z x hz]
  refine hk _ _ (S.ownNew ((Fr.refl _ _).push _) (.inr ⟨h.size, n, [], by rw [List.length_replicate], Nat.le_refl _, by rw [List.length_replicate]; exact Nat.le_refl _, hn, ?_, ?_⟩))
  · rw [List.append_nil]
    exact blk_push_new rfl
  · rw [List.append_nil, flat_length hsz, List.length_replicate]
end Go.Proofs.Ytnjjdpeglkiifaa.MX

/- Frames, as bytes. -/
namespace Go.Proofs.Ytnjjdpeglkiifaa.MX
open Go Go.Proofs
set_option linter.unusedSimpArgs false
set_option linter.unusedVariables false

theorem le1_165 : le 1 165 = [165] := rfl
theorem frameOf_eq (x : List UInt8) : frameOf x = 165 :: (le 2 x.length ++ (le 4 (fsum x) ++ x)) := rfl
theorem frHead {x r : List UInt8} (h2 : x.length ≤ 60000) :
    ((frameOf x ++ r).drop 1).take 2 = le 2 x.length ∧ ((frameOf x ++ r).drop 3).take 4 = le 4 (fsum x) ∧ (frameOf x ++ r).drop 7 = x ++ r := by
  have l2 := le_length 2 (x.length : Int)
  have l4 := le_length 4 (fsum x : Int)
  have e : frameOf x ++ r = ([165] ++ le 2 x.length) ++ (le 4 (fsum x) ++ (x ++ r)) := by rw [frameOf_eq]; simp
  have e3 : (frameOf x ++ r).drop 3 = le 4 (fsum x) ++ (x ++ r) := by
    rw [e, List.drop_append_of_le_length (by simp [l2]), List.drop_of_length_le (by simp [l2]), List.nil_append]
  refine ⟨?_, ?_, ?_⟩
  · rw [e, List.append_assoc, List.singleton_append, List.drop_succ_cons, List.drop_zero, List.take_append_of_le_length (by omega), List.take_of_length_le (by omega)]
  · rw [e3, List.take_append_of_le_length (by omega), List.take_of_length_le (by omega)]
  · rw [show (7 : Nat) = 3 + 4 from rfl, ← List.drop_drop, e3, List.drop_append_of_le_length (by omega), List.drop_of_length_le (by omega), List.nil_append]
theorem frN_frame {x r : List UInt8} (h2 : x.length ≤ 60000) : frN (frameOf x ++ r) = x.length := by
  rw [frN, (frHead h2).1, num_le 2 _ (by omega) (by omega)]
theorem firstOf_frame {x r : List UInt8} (h1 : 1 ≤ x.length) (h2 : x.length ≤ 60000) : firstOf (frameOf x ++ r) = some x := by
  have hn := frN_frame (r := r) h2
  have hX : frX (frameOf x ++ r) = x := by
    rw [frX, hn, (frHead h2).2.2, Int.toNat_natCast, List.take_append_of_le_length (Nat.le_refl _), List.take_length]
  have hlen : (frameOf x ++ r).length = 7 + x.length + r.length := by rw [List.length_append, frameOf_len]
  have hfs : fsum x < 4294967296 := sum_lt _
  have ho : frOk (frameOf x ++ r) := by
    refine ⟨by omega, rfl, by omega, by omega, by omega, ?_⟩
    rw [(frHead h2).2.1, hX, num_le 4 _ (by omega) (by omega)]
  rw [firstOf_yes ho, hX]
theorem framesOf_frame {x r : List UInt8} (h1 : 1 ≤ x.length) (h2 : x.length ≤ 60000) : framesOf (frameOf x ++ r) = x :: framesOf r := by
  rw [framesOf_eq, firstOf_frame h1 h2]
  simp only [List.cons.injEq, true_and]
  rw [List.drop_append_of_le_length (by rw [frameOf_len]; omega), List.drop_of_length_le (by rw [frameOf_len]; omega), List.nil_append]
theorem framesOf_cat : ∀ (l : List (List UInt8)) {r : List UInt8}, (∀ x ∈ l, 1 ≤ x.length ∧ x.length ≤ 60000) → framesOf (l.flatMap frameOf ++ r) = l ++ framesOf r
  | [], r, _ => by simp
  | x :: l, r, h => by
    rw [List.flatMap_cons, List.append_assoc, framesOf_frame (h x (by simp)).1 (h x (by simp)).2, framesOf_cat l fun y hy => h y (List.mem_cons_of_mem _ hy)]
    rfl
theorem framesOf_part {x : List UInt8} {k : Nat} (h1 : 1 ≤ x.length) (h2 : x.length ≤ 60000) (hk : k < 7 + x.length) : framesOf ((frameOf x).take k) = [] := by
  rw [framesOf_eq]
  have : firstOf ((frameOf x).take k) = none := firstOf_no fun ho => by
    obtain ⟨g1, _, _, _, g5, _⟩ := ho
    have hl : ((frameOf x).take k).length = k := by simp [frameOf_len]; omega
    rw [hl] at g1 g5
    have hn : frN ((frameOf x).take k) = x.length := by
      have := frN_frame (r := []) h2
      rw [List.append_nil] at this
      rw [← this, frN, frN, List.drop_take, List.take_take, Nat.min_eq_left (by omega)]
    omega
  rw [this]
theorem endOf_flat : ∀ (l : List (List UInt8)), endOf l = (l.flatMap frameOf).length
  | [] => rfl
  | x :: l => by rw [endOf, List.flatMap_cons, List.length_append, frameOf_len, endOf_flat l]
end Go.Proofs.Ytnjjdpeglkiifaa.MX

/- The number of some bytes, as the document reckons it. -/
namespace Go.Proofs.Ytnjjdpeglkiifaa.MX
open Go Go.Proofs
set_option linter.unusedSimpArgs false
set_option linter.unusedVariables false

theorem Number_ok {A : Option Addr} {c : Nat} {ys : List UInt8} {h : Heap} (ha : Arr bEnc 1 h A ys) (hl : ys.length ≤ 8) :
    CallsH Try.prog 91 [.slice A ys.length c] h fun v h' => v = .int .u64 (num ys) ∧ h' = h := by
  (refine enterK c_recoupref01_Number (Nat.le_of_ble_eq_true rfl) fun K hK => ?_; (try simp (maxSteps := 1000000) (disch := first | omega | assumption | exact Nat.le_of_ble_eq_true rfl) only [go_sem, ↓mwp_block, simprocAttr, ir_recoupref01_Number]))
  refine loop_intro (fun ρ h' => h' = h ∧ ρ 0 = .slice A ys.length c ∧ ∃ i : Nat, ρ 4 = .int .i64 ((i : Int) - 1) ∧ i ≤ ys.length ∧ ρ 3 = .int .u64 (num (ys.drop i))) (fun ρ _ => (iv (ρ 4) + 1).toNat) ?_ ?_
  · (try simp (maxSteps := 1000000) (disch := first | omega | assumption | exact Nat.le_of_ble_eq_true rfl) only [go_sem, ↓mwp_block, simprocAttr])
    exact ⟨ys.length, rfl, Nat.le_refl _, by simp [num]⟩
  · rintro ρ h' J hJ ⟨hh, e0, i, e4, hi, e3⟩
    subst hh
    (try simp (maxSteps := 1000000) (disch := first | omega | assumption | exact Nat.le_of_ble_eq_true rfl) only [go_sem, ↓mwp_block, simprocAttr, e4])
    refine cond_dec (fun hg => ?_) (fun hg => ?_)
    · obtain ⟨j, rfl⟩ : ∃ j, i = j + 1 := ⟨i - 1, by omega⟩
      have e4' : ρ 4 = .int .i64 (j : Int) := by rw [e4]; congr 1; omega
      have hj : j < ys.length := by omega
      obtain ⟨b, off, rfl, hr⟩ := ha.at hj
      have r1 := rd1_part0 hr (by omega)
      simp only [bEnc, List.getElem?_cons_zero] at r1
      have hd : ys.drop j = ys[j] :: ys.drop (j + 1) := List.drop_eq_getElem_cons hj
      generalize ys[j] = x at r1 hd
      have hx := u8_lt x
      have hn0 := num_nonneg (ys.drop (j + 1))
      have hn1 := num_lt (ys.drop (j + 1))
      have hpw : (256 : Int) ^ (ys.drop (j + 1)).length ≤ 256 ^ 7 := by
        have h1 : (ys.drop (j + 1)).length ≤ 7 := by simp; omega
        have h2 : (256 : Nat) ^ (ys.drop (j + 1)).length ≤ 256 ^ 7 := Nat.pow_le_pow_right (by decide) h1
        have h3 : ((256 ^ (ys.drop (j + 1)).length : Nat) : Int) ≤ ((256 ^ 7 : Nat) : Int) := by omega
        simpa using h3
      have h7 : (256 : Int) ^ 7 = 72057594037927936 := rfl
      rw [h7] at hpw
      have hnj : num (ys.drop j) = num (ys.drop (j + 1)) * 256 + x.toNat := by
        rw [hd, num, Int.mul_comm, Int.add_comm]
      generalize num (ys.drop (j + 1)) = m at e3 hn0 hn1 hnj
      generalize (256 : Int) ^ (ys.drop (j + 1)).length = M at hn1 hpw
      have w1 : IntKind.u64.wrap (m * 256) = m * 256 := wrap_u64 (by omega) (by omega)
      have w2 : IntKind.u64.wrap (x.toNat : Int) = x.toNat := wrap_u64 (by omega) (by omega)
      have w3 : IntKind.u64.wrap (m * 256 + x.toNat) = m * 256 + x.toNat := wrap_u64 (by omega) (by omega)
      (try simp (maxSteps := 1000000) (disch := first | omega | assumption | exact Nat.le_of_ble_eq_true rfl) only [go_sem, ↓mwp_block, simprocAttr, e0, e3, e4', r1, w1, w2, w3])
      refine hJ _ _ ?_ ?_
      · (try simp (maxSteps := 1000000) (disch := first | omega | assumption | exact Nat.le_of_ble_eq_true rfl) only [go_sem, ↓mwp_block, simprocAttr, e0])
        exact ⟨j, rfl, by omega, by rw [hnj]⟩
      · (try simp (maxSteps := 1000000) (disch := first | omega | assumption | exact Nat.le_of_ble_eq_true rfl) only [go_sem, ↓mwp_block, simprocAttr, e4'])
        omega
    · obtain rfl : i = 0 := by omega
      (try simp (maxSteps := 1000000) (disch := first | omega | assumption | exact Nat.le_of_ble_eq_true rfl) only [go_sem, ↓mwp_block, simprocAttr, e3])
      exact hK _ _ ⟨rfl, rfl⟩
theorem Number2_ok {A : Option Addr} {n c : Nat} {ys : List UInt8} {h : Heap} (ha : Arr bEnc 1 h A ys) (hn : ys.length = n) (hl : ys.length ≤ 8) :
    CallsH Try.prog 91 [.slice A n c] h fun v h' => v = .int .u64 (num ys) ∧ h' = h := by
  subst hn
  exact Number_ok ha hl
end Go.Proofs.Ytnjjdpeglkiifaa.MX

/- Lists of bytes are alike (law03.Lists); the reference's frames. -/
namespace Go.Proofs.Ytnjjdpeglkiifaa.MX
open Go Go.Proofs
set_option linter.unusedSimpArgs false
set_option linter.unusedVariables false
set_option maxRecDepth 100000

/-- A slice of byte slices that can be read. -/
structure RL (h : Heap) (A : Option Addr) (zs : List Bz) : Prop where
  arr : Arr Bz.enc 1 h A zs
  ys : ∀ z ∈ zs, Arr bEnc 1 h z.A z.ys
theorem RL.fr {h h' : Heap} {A : Option Addr} {zs : List Bz} (r : RL h A zs) (hf : Fr h h' []) : RL h' A zs := ⟨r.arr.fr hf (by simp), fun z hz => (r.ys z hz).fr hf (by simp)⟩
theorem RL.take {h : Heap} {A : Option Addr} {zs : List Bz} (r : RL h A zs) (n : Nat) : RL h A (zs.take n) := by
  refine ⟨fun i hi => ?_, fun z hz => r.ys z (List.mem_of_mem_take hz)⟩
  obtain ⟨b, off, h1, h2⟩ := r.arr i (by simp at hi; omega)
  exact ⟨b, off, h1, by rw [h2, List.getElem_take]⟩
theorem rl_of {h0 h : Heap} {l : List HP} {A : Option Addr} {n c : Nat} {xs : List (List UInt8)} (S : St h0 h (lsA (.slice A n c) xs :: l)) : ∃ zs : List Bz, zs.map Bz.ys = xs ∧ n = zs.length ∧ RL h A zs := by
  obtain ⟨zs, hz, S⟩ := lsA_open.1 S
  have ha := S.own.arr bz_len
  refine ⟨zs, hz, ha.2.1, ha.1, fun z hz => ?_⟩
  obtain ⟨B, _, ho⟩ := row_says S.tl z hz
  exact (ho.arr bEnc_len).1
theorem lsA_sl {h0 h : Heap} {l : List HP} {s : Value} {xs : List (List UInt8)} (S : St h0 h (lsA s xs :: l)) : ∃ A c, s = .slice A xs.length c := by
  obtain ⟨zs, hz, S⟩ := lsA_open.1 S
  obtain ⟨A, c, rfl⟩ := S.sl
  exact ⟨A, c, by rw [← hz, List.length_map]⟩

theorem lsA_cap {h0 h : Heap} {l : List HP} {A : Option Addr} {n c : Nat} {xs : List (List UInt8)} (S : St h0 h (lsA (.slice A n c) xs :: l)) : n = xs.length ∧ n ≤ c ∧ c < 9223372036854775808 := by
  obtain ⟨zs, hz, S⟩ := lsA_open.1 S
  rw [← hz, List.length_map]
  exact S.cap
/-- One more byte slice behind a list of them. -/
theorem ls_append {h0 h : Heap} {l : List HP} {q e T' : Nat} {B : Option Addr} {x : List UInt8} {sl : Value} {xs : List (List UInt8)} {K : Value → Heap → Prop} {s : Tag h} {t : Tag K}
    (S : St h0 h (cellA q [.slice B x.length e] T' :: lsA sl xs :: ownA bEnc 1 5 (.slice B x.length e) x :: l)) (hx : xs.length ≤ 100000000)
    (hk : ∀ v' h', St h0 h' (lsA v' (xs ++ [x]) :: l) → K v' h') : appT 23 1 24 [.slice none 0 0] sl (.slice (some ⟨q, 0, none⟩) 1 1) h K s t := by
  obtain ⟨zs, hz, S⟩ := lsA_open.1 S.p1
  have S := S.perm (List.perm_middle (l₁ := _ :: zs.map bRow))
  have hzl : zs.length = xs.length := by rw [← hz, List.length_map]
  refine st_append1 (bytes := 24) (x := (⟨B, e, x⟩ : Bz)) bz_len (by omega) bz_plain rfl rfl S (by omega) (by omega) ?_
  intro v' h' S
  exact hk v' h' (lsA_open.2 ⟨zs ++ [⟨B, e, x⟩], by rw [List.map_append, hz]; rfl, by rw [List.map_append, List.append_assoc]; exact S⟩)

theorem Lists_ok {h : Heap} {A B : Option Addr} {zs ws : List Bz} {c d : Nat} (ha : RL h A zs) (hb : RL h B ws) (hz : ∀ z ∈ zs, z.ys.length < 1000000000) (hw : ∀ z ∈ ws, z.ys.length < 1000000000) (hl : zs.length < 1000000000) (hl2 : ws.length < 9223372036854775808) :
    CallsH Try.prog 80 [.slice A zs.length c, .slice B ws.length d] h fun v h' => v = .bool (dcd (zs.map Bz.ys = ws.map Bz.ys)) ∧ h' = h := by
  by_cases hlen : zs.length = ws.length
  case neg =>
    have hne : ¬ (zs.map Bz.ys = ws.map Bz.ys) := fun h => hlen (by simpa using congrArg List.length h)
    (refine enterK c_recouplaw03_Lists (Nat.le_of_ble_eq_true rfl) fun K hK => ?_; (try simp (maxSteps := 1000000) (disch := first | omega | assumption | exact Nat.le_of_ble_eq_true rfl) only [go_sem, ↓mwp_block, simprocAttr, ir_recouplaw03_Lists]))
    exact hK _ _ ⟨by rw [dcd_false hne], rfl⟩
  (refine enterK c_recouplaw03_Lists (Nat.le_of_ble_eq_true rfl) fun K hK => ?_; (try simp (maxSteps := 1000000) (disch := first | omega | assumption | exact Nat.le_of_ble_eq_true rfl) only [go_sem, ↓mwp_block, simprocAttr, ir_recouplaw03_Lists]))
  refine loop_intro (fun ρ h' => h' = h ∧ ρ 0 = .slice A zs.length c ∧ ρ 1 = .slice B ws.length d ∧ ρ 12 = .int .i64 zs.length ∧ ∃ i : Nat, ρ 13 = .int .i64 i ∧ i ≤ zs.length ∧ (zs.take i).map Bz.ys = (ws.take i).map Bz.ys) (fun ρ _ => zs.length - (iv (ρ 13)).toNat) ?_ ?_
  · (try simp (maxSteps := 1000000) (disch := first | omega | assumption | exact Nat.le_of_ble_eq_true rfl) only [go_sem, ↓mwp_block, simprocAttr])
    exact ⟨0, rfl, by omega, rfl⟩
  · rintro ρ h' J hJ ⟨rfl, e0, e1, e12, i, e13, hi, hpre⟩
    (try simp (maxSteps := 1000000) (disch := first | omega | assumption | exact Nat.le_of_ble_eq_true rfl) only [go_sem, ↓mwp_block, simprocAttr, e12, e13])
    refine cond_dec (fun hg => ?_) (fun hg => ?_)
    · have hi1 : i < zs.length := by omega
      have hi2 : i < ws.length := by omega
      obtain ⟨b1, o1, rfl, r1⟩ := ha.arr.at hi1
      obtain ⟨b2, o2, rfl, r2⟩ := hb.arr.at hi2
      have y1 := ha.ys _ (List.getElem_mem hi1)
      have y2 := hb.ys _ (List.getElem_mem hi2)
      have l1 := hz _ (List.getElem_mem hi1)
      have l2 := hw _ (List.getElem_mem hi2)
      have t1 := List.take_succ_eq_append_getElem hi1
      have t2 := List.take_succ_eq_append_getElem hi2
      have hget : zs.map Bz.ys = ws.map Bz.ys → (zs[i]).ys = (ws[i]).ys := fun h => by
        have := congrArg (·[i]?) h
        simpa [List.getElem?_eq_getElem hi1, List.getElem?_eq_getElem hi2] using this
      generalize zs[i] = z at r1 y1 l1 t1 hget
      generalize ws[i] = w at r2 y2 l2 t2 hget
      have p1 := rd1_part (k := 0) r1
      have p2 := rd1_part (k := 0) r2
      simp only [Bz.enc, Nat.add_zero, List.getElem?_cons_zero, Nat.mul_one] at p1 p2
      (try simp (maxSteps := 1000000) (disch := first | omega | assumption | exact Nat.le_of_ble_eq_true rfl) only [go_sem, ↓mwp_block, simprocAttr, e0, e1, e13])
      refine draw_eq ?_
      (try simp (maxSteps := 1000000) (disch := first | omega | assumption | exact Nat.le_of_ble_eq_true rfl) only [go_sem, ↓mwp_block, simprocAttr, e0, e1, e13, p1, p2, Nat.mul_one])
      refine call_intro (Bytes_ok y1 y2 l1 l2) ?_
      rintro _ _ ⟨rfl, rfl⟩
      by_cases hy : z.ys = w.ys
      · (try simp (maxSteps := 1000000) (disch := first | omega | assumption | exact Nat.le_of_ble_eq_true rfl) only [go_sem, ↓mwp_block, simprocAttr, hy, e13])
        refine hJ _ _ ?_ ?_
        · (try simp (maxSteps := 1000000) (disch := first | omega | assumption | exact Nat.le_of_ble_eq_true rfl) only [go_sem, ↓mwp_block, simprocAttr, e0, e1, e12, e13])
          exact ⟨i + 1, rfl, by omega, by rw [t1, t2, List.map_append, List.map_append, hpre, List.map_cons, List.map_cons, hy]⟩
        · (try simp (maxSteps := 1000000) (disch := first | omega | assumption | exact Nat.le_of_ble_eq_true rfl) only [go_sem, ↓mwp_block, simprocAttr, e13])
          omega
      · (try simp (maxSteps := 1000000) (disch := first | omega | assumption | exact Nat.le_of_ble_eq_true rfl) only [go_sem, ↓mwp_block, simprocAttr])
        exact hK _ _ ⟨by rw [dcd_false fun h => hy (hget h)], rfl⟩
    · obtain rfl : i = zs.length := by omega
      (try simp (maxSteps := 1000000) (disch := first | omega | assumption | exact Nat.le_of_ble_eq_true rfl) only [go_sem, ↓mwp_block, simprocAttr])
      rw [List.take_length, hlen, List.take_length] at hpre
      exact hK _ _ ⟨by rw [dcd_true hpre], rfl⟩
end Go.Proofs.Ytnjjdpeglkiifaa.MX
