/- Texts in one file: Lg2, Dr1. -/
import Derived.Test.YtnjjdpeglkiifaaK17
import Derived.Test.YtnjjdpeglkiifaaK13

/- The log: which of its files counts. -/
namespace Go.Proofs.Ytnjjdpeglkiifaa.MX
open Go Go.Proofs
set_option linter.unusedSimpArgs false
set_option linter.unusedVariables false
set_option maxHeartbeats 16000000
set_option maxRecDepth 20000
theorem shut_all {h0 : Heap} {L : List HP} : ∀ (D : List Nat) {h : Heap}, St h0 h (D.map (fun d => objA d defO) ++ L) → shutOk D h ∧ St h0 (shut D h) L
  | [], h, S => ⟨trivial, S⟩
  | d :: D, h, S => by
    have S1 := (show St h0 h (objA d defO :: (D.map (fun d => objA d defO) ++ L)) from S)
    obtain ⟨h1, h2⟩ := shut_all D (S1.objSet (o' := .deferred none)).tl
    exact ⟨⟨S1.obj, h1⟩, h2⟩
theorem endN {P : Program} {rs : List MRes} {R : Value → Heap → Prop} {ρ : Env} {h0 h : Heap} {L : List HP} {D : List Nat} (S : St h0 h (D.map (fun d => objA d defO) ++ L)) (hk : ∀ h', St h0 h' L → bindT (resVs ρ h' rs) (fun vs => R (oneOf vs) h') ⟨⟩) : endY rs R D ρ h :=
  ⟨(shut_all D S).1, hk _ (shut_all D S).2⟩
noncomputable def pickL (D : Dk) (n : Int) (L : Lg) : Lg := match fileOf D n with
  | none => L
  | some f => match begins f.bs with
    | none => L
    | some (g, img, k) => if g ≤ L.gen then L else ⟨n, g, img, framesOf (f.bs.drop k), L.over⟩
def lg0 : Lg := ⟨0, 0, [], [], false⟩
noncomputable def findL (D : Dk) : Lg := pickL D 2 (pickL D 1 lg0)
noncomputable def findAt (D : Dk) : Nat → Lg
  | 0 => lg0
  | i + 1 => pickL D ((i : Int) + 1) (findAt D i)
theorem begins_len {b img : List UInt8} {g : Int} {k : Nat} (h : begins b = some (g, img, k)) : k ≤ b.length ∧ 0 ≤ g ∧ g < 4294967296 := by
  unfold begins at h
  cases hf : firstOf b with
  | none => rw [hf] at h; cases h
  | some x =>
    rw [hf] at h
    simp only at h
    split at h
    · cases h
    · rename_i h4
      cases h
      obtain ⟨_, _, h1, h2, h3⟩ := firstOf_some hf
      have hn := num_lt (x.take 4)
      rw [List.length_take, Nat.min_eq_left (by omega)] at hn
      exact ⟨h3, num_nonneg _, by simpa using hn⟩
theorem pickL_gen {D : Dk} {n : Int} {L : Lg} (h : 0 ≤ L.gen ∧ L.gen < 4294967296) : 0 ≤ (pickL D n L).gen ∧ (pickL D n L).gen < 4294967296 := by
  unfold pickL
  split
  · exact h
  · split
    · exact h
    · rename_i hb
      split
      · exact h
      · exact (begins_len hb).2
theorem findAt_gen (D : Dk) : ∀ i, 0 ≤ (findAt D i).gen ∧ (findAt D i).gen < 4294967296
  | 0 => ⟨Int.le_refl 0, by show (0 : Int) < 4294967296; decide⟩
  | i + 1 => pickL_gen (findAt_gen D i)
section
variable {h0 h : Heap} {l : List HP} {d : Nat} {D : Dk}
theorem there_at {n : Int} (hlo : D.lost = false) (h0' : 0 ≤ n) (h8 : n < 8) : thereE D n = if (fileOf D n).isNone then 7 else 0 := by
  unfold thereE
  have : askE D n = 0 := by unfold askE; rw [hlo]; simp; omega
  rw [this]
  simp
theorem file_le (ok : D.ok) {n : Int} {f : DF} (h : fileOf D n = some f) : f.bs.length ≤ 1048576 := by
  unfold fileOf at h
  split at h
  · have hm : some f ∈ D.fs := by
      rw [List.getD_eq_getElem?_getD] at h
      cases hg : D.fs[n.toNat]? with
      | none => rw [hg] at h; cases h
      | some z => rw [hg] at h; cases h; exact List.mem_of_getElem? hg
    obtain ⟨k, hk, hkf⟩ := List.getElem_of_mem hm
    have := used_get hk
    rw [hkf] at this
    have h1 := ok.room
    have h2 := ok.cap
    have : f.bs.length ≤ used D.fs := this
    omega
  · cases h
theorem find_ok (ok : D.ok) (hlo : D.lost = false) (S : St h0 h (diskA d D :: l)) :
    CallsH Try.prog 71 [.pointer (some ⟨d, 0, none⟩)] h fun v h' => ∃ p, v = .tuple #[.pointer (some ⟨p, 0, none⟩), .int .i64 0] ∧ St h0 h' (logA p d (findL D) :: diskA d D :: l) := by
  refine enterY c_log_find (by kernel_rfl) (Nat.le_of_ble_eq_true rfl) fun K hK => ?_
  (try simp (maxSteps := 1000000) (disch := first | omega | assumption | exact Nat.le_of_ble_eq_true rfl) only [go_sem, ↓mwp_block, simprocAttr, ir_log_find, zerosL])
  (refine st_alloc S ?_; clear S; intro p h S; (try simp only [splice_cons, splice_nil, List.set_cons_zero, List.set_cons_succ, Nat.zero_add, Nat.reduceAdd, List.cons_append, List.nil_append] at S); ((try clear F); have F := S.all; (try simp only [all_cons, all_nil, says_cell, and_true] at F)))
  (try simp (maxSteps := 1000000) (disch := first | omega | assumption | exact Nat.le_of_ble_eq_true rfl) only [go_sem, ↓mwp_block, simprocAttr])
  (refine st_alloc S ?_; clear S; intro q h S; (try simp only [splice_cons, splice_nil, List.set_cons_zero, List.set_cons_succ, Nat.zero_add, Nat.reduceAdd, List.cons_append, List.nil_append] at S); ((try clear F); have F := S.all; (try simp only [all_cons, all_nil, says_cell, and_true] at F)))
  (try simp (maxSteps := 1000000) (disch := first | omega | assumption | exact Nat.le_of_ble_eq_true rfl) only [go_sem, ↓mwp_block, simprocAttr])
  (refine st_store (by first | exact S | exact S.p1 | exact S.p2 | exact S.p3 | exact S.p4 | exact S.p5 | exact S.p6 | exact S.p7 | exact S.p8 | exact S.p9 | exact S.p10 | exact S.p11) (by rfl) (by rfl) (Nat.le_of_ble_eq_true rfl) ?_; clear S; intro h S; (try simp only [splice_cons, splice_nil, List.set_cons_zero, List.set_cons_succ, Nat.zero_add, Nat.reduceAdd, List.cons_append, List.nil_append] at S); ((try clear F); have F := S.all; (try simp only [all_cons, all_nil, says_cell, and_true] at F)))
  (try simp (maxSteps := 1000000) (disch := first | omega | assumption | exact Nat.le_of_ble_eq_true rfl) only [go_sem, ↓mwp_block, simprocAttr, zerosL])
  (refine st_alloc S ?_; clear S; intro a h S; (try simp only [splice_cons, splice_nil, List.set_cons_zero, List.set_cons_succ, Nat.zero_add, Nat.reduceAdd, List.cons_append, List.nil_append] at S); ((try clear F); have F := S.all; (try simp only [all_cons, all_nil, says_cell, and_true] at F)))
  clear F
  have S : St h0 h (logA p d lg0 :: cellA q [.pointer (some ⟨p, 0, none⟩)] 67 :: cellA a [.int .i64 1, .int .i64 2] 3 :: diskA d D :: l) := by
    have S1 : St h0 h (lsA (.slice none 0 0) [] :: _) := lsA_open.2 ⟨[], rfl, S.nilS⟩
    have S2 := img_nil S1
    refine logA_open.2 ⟨.slice none 0 0, .slice none 0 0, ?_⟩
    show St h0 h (cellA p [.pointer (some ⟨d, 0, none⟩), .int .i64 0, .int .i64 0, .slice none 0 0, .slice none 0 0, .bool false] 115 :: imgA (.slice none 0 0) [] :: lsA (.slice none 0 0) [] :: cellA q [.pointer (some ⟨p, 0, none⟩)] 67 :: cellA a [.int .i64 1, .int .i64 2] 3 :: diskA d D :: l)
    (refine St.perm S2 ?_; repeat (with_reducible first | exact List.Perm.refl _ | refine pm0 ?_ | refine pm1 ?_ | refine pm2 ?_ | refine pm3 ?_ | refine pm4 ?_ | refine pm5 ?_ | refine pm6 ?_ | refine pm7 ?_ | refine pm8 ?_ | refine pm9 ?_ | refine pm10 ?_ | refine pm11 ?_ | refine pm12 ?_))
  (try simp (maxSteps := 1000000) (disch := first | omega | assumption | exact Nat.le_of_ble_eq_true rfl) only [go_sem, ↓mwp_block, simprocAttr])
  refine loopY_intro (fun E ρ h' => ρ 0 = .pointer (some ⟨d, 0, none⟩) ∧ ρ 4 = .pointer (some ⟨q, 0, none⟩) ∧ ρ 17 = .slice (some ⟨a, 0, none⟩) 2 2 ∧ ρ 18 = .int .i64 2 ∧ ∃ i : Nat, ρ 19 = .int .i64 i ∧ i ≤ 2 ∧
    St h0 h' (logA p d (findAt D i) :: cellA q [.pointer (some ⟨p, 0, none⟩)] 67 :: cellA a [.int .i64 1, .int .i64 2] 3 :: diskA d D :: (E.map (fun d => objA d defO) ++ l))) (fun ρ _ => 2 - (iv (ρ 19)).toNat) ?_ ?_
  · (try simp (maxSteps := 1000000) (disch := first | omega | assumption | exact Nat.le_of_ble_eq_true rfl) only [go_sem, ↓mwp_block, simprocAttr])
    exact ⟨0, rfl, by omega, S⟩
  clear S
  rintro E ρ h J hJ ⟨e0, e4, e17, e18, i, e19, hi, S⟩
  (try simp (maxSteps := 1000000) (disch := first | omega | assumption | exact Nat.le_of_ble_eq_true rfl) only [go_sem, ↓mwp_block, simprocAttr, e18, e19])
  refine cond_dec (fun hlt => ?_) (fun hlt => ?_)
  case refine_2 =>
    obtain rfl : i = 2 := by omega
    have hq := st_rd1 (off := 0) S.p1
    simp only [List.getElem?_cons_zero] at hq
    (try simp (maxSteps := 1000000) (disch := first | omega | assumption | exact Nat.le_of_ble_eq_true rfl) only [go_sem, ↓mwp_block, simprocAttr, e4, hq])
    refine endN (P := Try.prog) (h0 := h0) (L := logA p d (findL D) :: diskA d D :: l) ?_ ?_
    · have S := S.p2.tl.p1.tl
      exact S.perm (List.perm_append_comm_assoc [_, _] _ _)
    · intro h S
      (try simp (maxSteps := 1000000) (disch := first | omega | assumption | exact Nat.le_of_ble_eq_true rfl) only [go_sem, ↓mwp_block, simprocAttr])
      exact hK _ _ ⟨p, rfl, S⟩
  have hi2 : i < 2 := by omega
  have hf1 : findAt D (i + 1) = pickL D ((i : Int) + 1) (findAt D i) := rfl
  have hgen := findAt_gen D i
  have hr : rd1 h (.pointer (some ⟨a, i, none⟩)) = some (.int .i64 ((i : Int) + 1)) := by
    rw [st_rd1 S.p2]
    match i, hi2 with
    | 0, _ => rfl
    | 1, _ => rfl
  have ht := there_at (D := D) (n := (i : Int) + 1) hlo (by omega) (by omega)
  generalize findAt D i = L at *
  (try simp (maxSteps := 1000000) (disch := first | omega | assumption | exact Nat.le_of_ble_eq_true rfl) only [go_sem, ↓mwp_block, simprocAttr, e17, e19, hr, e0, Nat.mul_one])
  refine call_intro (Read_ok ((i : Int) + 1) S.p3 ok) ?_
  clear S hr
  rintro _ h (⟨hne, rfl, S⟩ | ⟨heq, s, f, hfo, rfl, S⟩)
  · have hn : fileOf D ((i : Int) + 1) = none := by
      cases hfo : fileOf D ((i : Int) + 1) with
      | none => rfl
      | some f => rw [hfo] at ht; simp at ht; exact (hne ht).elim
    have h7 : thereE D ((i : Int) + 1) = 7 := by rw [ht, hn]; rfl
    have hp : pickL D ((i : Int) + 1) L = L := by unfold pickL; rw [hn]
    rw [h7]
    (try simp (maxSteps := 1000000) (disch := first | omega | assumption | exact Nat.le_of_ble_eq_true rfl) only [go_sem, ↓mwp_block, simprocAttr, e19])
    refine hJ _ _ _ ?_ ?_
    · (try simp (maxSteps := 1000000) (disch := first | omega | assumption | exact Nat.le_of_ble_eq_true rfl) only [go_sem, ↓mwp_block, simprocAttr, e0, e4, e17, e18])
      refine ⟨i + 1, rfl, by omega, ?_⟩
      rw [hf1, hp]
      (refine St.perm S ?_; repeat (with_reducible first | exact List.Perm.refl _ | refine pm0 ?_ | refine pm1 ?_ | refine pm2 ?_ | refine pm3 ?_ | refine pm4 ?_ | refine pm5 ?_ | refine pm6 ?_ | refine pm7 ?_ | refine pm8 ?_ | refine pm9 ?_ | refine pm10 ?_ | refine pm11 ?_ | refine pm12 ?_))
    · (try simp (maxSteps := 1000000) (disch := first | omega | assumption | exact Nat.le_of_ble_eq_true rfl) only [go_sem, ↓mwp_block, simprocAttr, e19])
      omega
  have hfl := file_le ok hfo
  obtain ⟨B, e, rfl⟩ := S.sl
  obtain ⟨_, hc1, hc2⟩ := S.cap
  (try simp (maxSteps := 1000000) (disch := first | omega | assumption | exact Nat.le_of_ble_eq_true rfl) only [go_sem, ↓mwp_block, simprocAttr])
  refine call_intro (begun_ok S (fun h' S => S.arr bEnc_len) hc1 hc2 (by omega)) ?_
  clear S
  intro v h hv
  cases hb : begins f.bs with
  | none =>
    rw [hb] at hv
    obtain ⟨rfl, S⟩ := hv
    have hp : pickL D ((i : Int) + 1) L = L := by unfold pickL; rw [hfo]; simp only [hb]
    have hq := st_rd1 (off := 0) S.p3
    simp only [List.getElem?_cons_zero] at hq
    have S1 := S
    obtain ⟨im, rs, S⟩ := logA_open.1 S.p2
    ((try clear F); have F := S.all; (try simp only [all_cons, all_nil, says_cell, and_true] at F))
    have hg := hgen.1
    (try simp (maxSteps := 1000000) (disch := first | omega | assumption | exact Nat.le_of_ble_eq_true rfl) only [go_sem, ↓mwp_block, simprocAttr, e4, hq, F, hg, e19])
    clear S F
    have S := S1.tl
    refine hJ _ _ _ ?_ ?_
    · (try simp (maxSteps := 1000000) (disch := first | omega | assumption | exact Nat.le_of_ble_eq_true rfl) only [go_sem, ↓mwp_block, simprocAttr, e0, e4, e17, e18])
      refine ⟨i + 1, rfl, by omega, ?_⟩
      rw [hf1, hp]
      (refine St.perm S ?_; repeat (with_reducible first | exact List.Perm.refl _ | refine pm0 ?_ | refine pm1 ?_ | refine pm2 ?_ | refine pm3 ?_ | refine pm4 ?_ | refine pm5 ?_ | refine pm6 ?_ | refine pm7 ?_ | refine pm8 ?_ | refine pm9 ?_ | refine pm10 ?_ | refine pm11 ?_ | refine pm12 ?_))
    · (try simp (maxSteps := 1000000) (disch := first | omega | assumption | exact Nat.le_of_ble_eq_true rfl) only [go_sem, ↓mwp_block, simprocAttr, e19])
      omega
  | some gik =>
    obtain ⟨g, img, k⟩ := gik
    rw [hb] at hv
    obtain ⟨v, rfl, S⟩ := hv
    obtain ⟨hk, hg0, hg1⟩ := begins_len hb
    have hq := st_rd1 (off := 0) S.p4
    simp only [List.getElem?_cons_zero] at hq
    have S1 := S
    obtain ⟨im, rs, S⟩ := logA_open.1 S.p3
    ((try clear F); have F := S.all; (try simp only [all_cons, all_nil, says_cell, and_true] at F))
    by_cases hle : g ≤ L.gen
    · have hp : pickL D ((i : Int) + 1) L = L := by unfold pickL; rw [hfo]; simp only [hb, if_pos hle]
      (try simp (maxSteps := 1000000) (disch := first | omega | assumption | exact Nat.le_of_ble_eq_true rfl) only [go_sem, ↓mwp_block, simprocAttr, e4, hq, F, hle, e19])
      clear S F
      have S := S1.tl.tl
      refine hJ _ _ _ ?_ ?_
      · (try simp (maxSteps := 1000000) (disch := first | omega | assumption | exact Nat.le_of_ble_eq_true rfl) only [go_sem, ↓mwp_block, simprocAttr, e0, e4, e17, e18])
        refine ⟨i + 1, rfl, by omega, ?_⟩
        rw [hf1, hp]
        (refine St.perm S ?_; repeat (with_reducible first | exact List.Perm.refl _ | refine pm0 ?_ | refine pm1 ?_ | refine pm2 ?_ | refine pm3 ?_ | refine pm4 ?_ | refine pm5 ?_ | refine pm6 ?_ | refine pm7 ?_ | refine pm8 ?_ | refine pm9 ?_ | refine pm10 ?_ | refine pm11 ?_ | refine pm12 ?_))
      · (try simp (maxSteps := 1000000) (disch := first | omega | assumption | exact Nat.le_of_ble_eq_true rfl) only [go_sem, ↓mwp_block, simprocAttr, e19])
        omega
    have hp : pickL D ((i : Int) + 1) L = ⟨(i : Int) + 1, g, img, framesOf (f.bs.drop k), L.over⟩ := by unfold pickL; rw [hfo]; simp only [hb, if_neg hle]
    have S : St h0 h (cellA p [.pointer (some ⟨d, 0, none⟩), .int .i64 L.file, .int .i64 L.gen, im, rs, .bool L.over] 115 :: imgA v img :: ownA bEnc 1 5 (.slice B f.bs.length e) f.bs :: diskA d D :: cellA q [.pointer (some ⟨p, 0, none⟩)] 67 :: cellA a [.int .i64 1, .int .i64 2] 3 :: (E.map (fun d => objA d defO) ++ l)) := S.d1.d1
    obtain ⟨Av, cv, rfl, hv1, hv2, _⟩ := imgA_open.1 S.p1
    have hq := st_rd1 (off := 0) S.p4
    simp only [List.getElem?_cons_zero] at hq
    have rx : ∀ K t, readT (fun h' => rd1 h' (.pointer (some ⟨q, 0, none⟩)) = some (.pointer (some ⟨p, 0, none⟩))) (fun h' => rd1 h' (.pointer (some ⟨q, 0, none⟩))) K t = K (.pointer (some ⟨p, 0, none⟩)) := fun K t => readT_v _ hq
    (try simp (maxSteps := 1000000) (disch := first | omega | assumption | exact Nat.le_of_ble_eq_true rfl) only [go_sem, ↓mwp_block, simprocAttr, e4, hq, F, hle])
    refine draw_inv (fun h' => rd1 h' (.pointer (some ⟨q, 0, none⟩)) = some (.pointer (some ⟨p, 0, none⟩))) hq ?_
    (try simp (maxSteps := 1000000) (disch := first | omega | assumption | exact Nat.le_of_ble_eq_true rfl) only [go_sem, ↓mwp_block, simprocAttr, e4, rx])
    refine st_store S rfl rfl (Nat.le_of_ble_eq_true rfl) ?_
    clear S S1 F rx hq
    intro h S
    refine ⟨st_rd1 (off := 0) S.p4, ?_⟩
    (try simp only [splice_cons, splice_nil, List.set_cons_zero, List.set_cons_succ, Nat.zero_add, Nat.reduceAdd, List.cons_append, List.nil_append] at S)
    (try simp (maxSteps := 1000000) (disch := first | omega | assumption | exact Nat.le_of_ble_eq_true rfl) only [go_sem, ↓mwp_block, simprocAttr])
    refine st_store S rfl rfl (Nat.le_of_ble_eq_true rfl) ?_
    clear S
    intro h S
    refine ⟨st_rd1 (off := 0) S.p4, ?_⟩
    (try simp only [splice_cons, splice_nil, List.set_cons_zero, List.set_cons_succ, Nat.zero_add, Nat.reduceAdd, List.cons_append, List.nil_append] at S)
    (try simp (maxSteps := 1000000) (disch := first | omega | assumption | exact Nat.le_of_ble_eq_true rfl) only [go_sem, ↓mwp_block, simprocAttr])
    refine st_store S rfl rfl (Nat.le_of_ble_eq_true rfl) ?_
    clear S
    intro h S
    refine ⟨st_rd1 (off := 0) S.p4, ?_⟩
    (try simp only [splice_cons, splice_nil, List.set_cons_zero, List.set_cons_succ, Nat.zero_add, Nat.reduceAdd, List.cons_append, List.nil_append] at S)
    (try simp (maxSteps := 1000000) (disch := first | omega | assumption | exact Nat.le_of_ble_eq_true rfl) only [go_sem, ↓mwp_block, simprocAttr])
    refine st_store S rfl rfl (Nat.le_of_ble_eq_true rfl) ?_
    clear S
    intro h S
    (try simp only [splice_cons, splice_nil, List.set_cons_zero, List.set_cons_succ, Nat.zero_add, Nat.reduceAdd, List.cons_append, List.nil_append] at S)
    obtain ⟨A', c', hcut, hcl, hcl2, hA'⟩ := cut_drop (at' := k) (S.p2.arr bEnc_len) hk hc1 hc2
    (try simp (maxSteps := 1000000) (disch := first | omega | assumption | exact Nat.le_of_ble_eq_true rfl) only [go_sem, ↓mwp_block, simprocAttr, hcut])
    refine call_intro (All_ok S) ?_
    clear S hcut
    rintro _ h ⟨pp, rfl, S⟩
    (try simp (maxSteps := 1000000) (disch := first | omega | assumption | exact Nat.le_of_ble_eq_true rfl) only [go_sem, ↓mwp_block, simprocAttr])
    have S : St h0 h (cellA pp [.slice A' (f.bs.drop k).length c'] 23 :: cellA p [.pointer (some ⟨d, 0, none⟩), .int .i64 ((i : Int) + 1), .int .i64 g, .slice Av img.length cv, .slice none 0 0, .bool L.over] 115 :: lsA (.slice none 0 0) [] :: imgA (.slice Av img.length cv) img :: ownA bEnc 1 5 (.slice B f.bs.length e) f.bs :: diskA d D :: cellA q [.pointer (some ⟨p, 0, none⟩)] 67 :: cellA a [.int .i64 1, .int .i64 2] 3 :: (E.map (fun d => objA d defO) ++ l)) := by
      have S1 : St h0 h (lsA (.slice none 0 0) [] :: _) := lsA_open.2 ⟨[], rfl, S.nilS⟩
      exact S1.p2.p2
    have hdl : (f.bs.drop k).length ≤ f.bs.length := by rw [List.length_drop]; omega
    let I : Nat → List HP → Prop := fun j M => j ≤ (framesOf (f.bs.drop k)).length ∧ ∃ rs, M = cellA p [.pointer (some ⟨d, 0, none⟩), .int .i64 ((i : Int) + 1), .int .i64 g, .slice Av img.length cv, rs, .bool L.over] 115 :: lsA rs ((framesOf (f.bs.drop k)).take j) :: imgA (.slice Av img.length cv) img :: ownA bEnc 1 5 (.slice B f.bs.length e) f.bs :: diskA d D :: cellA q [.pointer (some ⟨p, 0, none⟩)] 67 :: cellA a [.int .i64 1, .int .i64 2] 3 :: (E.map (fun d => objA d defO) ++ l)
    have hfrl := frames_lt (f.bs.drop k)
    refine rangeAll (b := f.bs.drop k) I (fun _ _ => False) (g' := .t 64) rfl (by (try simp (maxSteps := 1000000) (disch := first | omega | assumption | exact Nat.le_of_ble_eq_true rfl) only [go_sem, ↓mwp_block, simprocAttr])) S ⟨by omega, _, rfl⟩ hcl hcl2 (by omega) ?_ rfl (by decide) (by kernel_rfl) (by kernel_rfl) ?_ ?_ ?_
    · rintro j M h' ⟨_, rs, rfl⟩ S
      exact hA' h' (S.p3.arr bEnc_len)
    · rintro rec yl Dd j x v M h hx ⟨_, rs, rfl⟩ S
      have hjl : j < (framesOf (f.bs.drop k)).length := (List.getElem?_eq_some_iff.1 hx).1
      have hxi : (framesOf (f.bs.drop k))[j] = x := (List.getElem?_eq_some_iff.1 hx).2
      obtain ⟨Bx, ex, rfl⟩ := S.sl
      refine of_round ?_
      conv => arg 3; reduce
      (try simp (maxSteps := 1000000) (disch := first | omega | assumption | exact Nat.le_of_ble_eq_true rfl) only [go_sem, ↓mwp_block, simprocAttr, setTmps_2])
      refine qA_intro S.p1.obj ?_
      conv => arg 3; reduce
      have S := S.p1.objSet (o' := .loop (rec .busy none))
      (try simp (maxSteps := 1000000) (disch := first | omega | assumption | exact Nat.le_of_ble_eq_true rfl) only [go_sem, ↓mwp_block, simprocAttr, setTmps_2])
      generalize h.setIfInBounds yl (.loop (rec .busy none)) = h at S ⊢
      have hq := st_rd1 (off := 0) S.p9
      have hp4 := st_rd1 (off := 4) S.p4
      simp only [List.getElem?_cons_succ, List.getElem?_cons_zero] at hq hp4
      obtain ⟨Br, er, rfl⟩ : ∃ Br er, rs = .slice Br j er := by
        obtain ⟨zs, hzs, So⟩ := lsA_open.1 S.p5
        have hzl : zs.length = j := by
          have := congrArg List.length hzs
          simp at this
          omega
        obtain ⟨B1, e1, rfl⟩ := So.sl
        exact ⟨B1, e1, by rw [hzl]⟩
      have hI : (fun h' => rd1 h' (.pointer (some ⟨q, 0, none⟩)) = some (.pointer (some ⟨p, 0, none⟩)) ∧ rd1 h' (.pointer (some ⟨p, 4, none⟩)) = some (.slice Br j er)) h := ⟨hq, hp4⟩
      have rx : ∀ K t, readT (fun h' => rd1 h' (.pointer (some ⟨q, 0, none⟩)) = some (.pointer (some ⟨p, 0, none⟩)) ∧ rd1 h' (.pointer (some ⟨p, 4, none⟩)) = some (.slice Br j er)) (fun h' => rd1 h' (.pointer (some ⟨q, 0, none⟩))) K t = K (.pointer (some ⟨p, 0, none⟩)) := fun K t => readT_I (fun h' hh => hh.1) h hI
      have ry : ∀ K t, readT (fun h' => rd1 h' (.pointer (some ⟨q, 0, none⟩)) = some (.pointer (some ⟨p, 0, none⟩)) ∧ rd1 h' (.pointer (some ⟨p, 4, none⟩)) = some (.slice Br j er)) (fun h' => rd1 h' (.pointer (some ⟨p, 4, none⟩))) K t = K (.slice Br j er) := fun K t => readT_I (fun h' hh => hh.2) h hI
      refine draw_inv (fun h' => rd1 h' (.pointer (some ⟨q, 0, none⟩)) = some (.pointer (some ⟨p, 0, none⟩)) ∧ rd1 h' (.pointer (some ⟨p, 4, none⟩)) = some (.slice Br j er)) hI ?_
      (try simp (maxSteps := 1000000) (disch := first | omega | assumption | exact Nat.le_of_ble_eq_true rfl) only [go_sem, ↓mwp_block, simprocAttr, e4, rx, ry])
      clear rx ry hI hq hp4
      (refine st_alloc S ?_; clear S; intro w h S; (try simp only [splice_cons, splice_nil, List.set_cons_zero, List.set_cons_succ, Nat.zero_add, Nat.reduceAdd, List.cons_append, List.nil_append] at S); ((try clear F); have F := S.all; (try simp only [all_cons, all_nil, says_cell, and_true] at F)))
      clear F
      refine ⟨⟨st_rd1 (off := 0) S.p10, st_rd1 (off := 4) S.p5⟩, ?_⟩
      (try simp (maxSteps := 1000000) (disch := first | omega | assumption | exact Nat.le_of_ble_eq_true rfl) only [go_sem, ↓mwp_block, simprocAttr])
      obtain ⟨zs2, hzs2, S⟩ := lsA_open.1 S.p6
      have S := S.perm (List.perm_middle (l₁ := _ :: zs2.map bRow))
      have hz2 : zs2.length = j := by
        have := congrArg List.length hzs2
        simp at this
        omega
      refine st_append1 (bytes := 24) (x := (⟨Bx, ex, x⟩ : Bz)) bz_len (by omega) bz_plain rfl rfl S (by omega) (by omega) ?_
      clear S
      intro v' h S
      obtain ⟨B2, e2, rfl⟩ := S.sl
      have S := S.perm (List.Perm.cons _ (List.Perm.append_left _ (List.Perm.swap _ _ _)))
      have S : St h0 h (lsA (.slice B2 (zs2 ++ [(⟨Bx, ex, x⟩ : Bz)]).length e2) ((framesOf (f.bs.drop k)).take (j + 1)) :: _) := lsA_open.2 ⟨zs2 ++ [⟨Bx, ex, x⟩], by rw [List.map_append, hzs2, List.take_succ_eq_append_getElem hjl, hxi]; rfl, by rw [List.map_append, List.append_assoc]; exact S⟩
      refine ⟨⟨st_rd1 (off := 0) S.p8, st_rd1 (off := 4) S.p4⟩, ?_⟩
      (try simp (maxSteps := 1000000) (disch := first | omega | assumption | exact Nat.le_of_ble_eq_true rfl) only [go_sem, ↓mwp_block, simprocAttr])
      refine st_store S.p4 rfl rfl (Nat.le_of_ble_eq_true rfl) ?_
      clear S
      intro h S
      (try simp only [splice_cons, splice_nil, List.set_cons_zero, List.set_cons_succ, Nat.zero_add, Nat.reduceAdd, List.cons_append, List.nil_append] at S)
      (try simp (maxSteps := 1000000) (disch := first | omega | assumption | exact Nat.le_of_ble_eq_true rfl) only [go_sem, ↓mwp_block, simprocAttr])
      have Sb := S.p2.obj
      have S := S.p2.objSet (o' := .loop (rec .ready none))
      refine ⟨Sb, .inl ⟨_, ⟨by omega, .slice B2 (zs2 ++ [(⟨Bx, ex, x⟩ : Bz)]).length e2, rfl⟩, ?_⟩⟩
      (refine St.perm S ?_; repeat (with_reducible first | exact List.Perm.refl _ | refine pm0 ?_ | refine pm1 ?_ | refine pm2 ?_ | refine pm3 ?_ | refine pm4 ?_ | refine pm5 ?_ | refine pm6 ?_ | refine pm7 ?_ | refine pm8 ?_ | refine pm9 ?_ | refine pm10 ?_ | refine pm11 ?_ | refine pm12 ?_))
    · rintro Dd h' L' ⟨_, rs, rfl⟩ S
      rw [List.take_length] at S
      (try simp (maxSteps := 1000000) (disch := first | omega | assumption | exact Nat.le_of_ble_eq_true rfl) only [go_sem, ↓mwp_block, simprocAttr, e19])
      refine hJ _ _ _ ?_ ?_
      · (try simp (maxSteps := 1000000) (disch := first | omega | assumption | exact Nat.le_of_ble_eq_true rfl) only [go_sem, ↓mwp_block, simprocAttr, e0, e4, e17, e18])
        refine ⟨i + 1, rfl, by omega, ?_⟩
        rw [hf1, hp]
        have S1 : St h0 h' (logA p d ⟨(i : Int) + 1, g, img, framesOf (f.bs.drop k), L.over⟩ :: _) := logA_open.2 ⟨_, _, S.p2.p3.p3⟩
        show St h0 h' (logA p d ⟨(i : Int) + 1, g, img, framesOf (f.bs.drop k), L.over⟩ :: cellA q [.pointer (some ⟨p, 0, none⟩)] 67 :: cellA a [.int .i64 1, .int .i64 2] 3 :: diskA d D :: objA Dd defO :: (E.map (fun d => objA d defO) ++ l))
        have S1 := S1.p2.tl
        (refine St.perm S1 ?_; repeat (with_reducible first | exact List.Perm.refl _ | refine pm0 ?_ | refine pm1 ?_ | refine pm2 ?_ | refine pm3 ?_ | refine pm4 ?_ | refine pm5 ?_ | refine pm6 ?_ | refine pm7 ?_ | refine pm8 ?_ | refine pm9 ?_ | refine pm10 ?_ | refine pm11 ?_ | refine pm12 ?_))
      · (try simp (maxSteps := 1000000) (disch := first | omega | assumption | exact Nat.le_of_ble_eq_true rfl) only [go_sem, ↓mwp_block, simprocAttr, e19])
        omega
    · rintro Dd h' id L' hf _
      exact hf.elim
end
end Go.Proofs.Ytnjjdpeglkiifaa.MX

/- The reference's disk: what it has; New and Room. -/
namespace Go.Proofs.Ytnjjdpeglkiifaa.MX
open Go Go.Proofs
set_option linter.unusedSimpArgs false
set_option linter.unusedVariables false

/-- A file's slot: its slice, and what it is. -/
abbrev RSlot := Value × Option DF
def bsF : Option DF → List UInt8
  | none => []
  | some f => f.bs
def rslotA (z : RSlot) : HP := ownA bEnc 1 5 z.1 (bsF z.2)
def rcell (z : RSlot) : List Value := [.bool z.2.isSome, z.1, .int .i64 (safeF z.2)]
def rcells (cap : Int) (zs : List RSlot) (fuse : Int) (lost : Bool) : List Value := .int .i64 cap :: (zs.flatMap rcell ++ [.int .i64 fuse, .bool lost])
def refA (w : Nat) (D : Dk) : HP := exA fun zs : List RSlot => starsA (cellA w (rcells D.cap zs D.fuse D.lost) 132 :: pureA (zs.map Prod.snd = D.fs ∧ zs.length = 8) :: zs.map rslotA)
theorem refA_open {h0 h : Heap} {l : List HP} {w : Nat} {D : Dk} : St h0 h (refA w D :: l) ↔ ∃ zs : List RSlot, zs.map Prod.snd = D.fs ∧ zs.length = 8 ∧ St h0 h (cellA w (rcells D.cap zs D.fuse D.lost) 132 :: (zs.map rslotA ++ l)) := by
  refine St.ex.trans ⟨?_, ?_⟩
  · rintro ⟨zs, S⟩
    have S := St.stars.1 S
    simp only [List.cons_append] at S
    obtain ⟨hp, S⟩ := St.pure.1 S.p1
    exact ⟨zs, hp.1, hp.2, S⟩
  · rintro ⟨zs, h1, h2, S⟩
    refine ⟨zs, St.stars.2 ?_⟩
    simp only [List.cons_append]
    exact (St.pure.2 ⟨⟨h1, h2⟩, S⟩).p1
theorem rcell_len (z : RSlot) : (rcell z).length = 3 := rfl
theorem rflat_len (zs : List RSlot) : (zs.flatMap rcell).length = zs.length * 3 := flat_length rcell_len zs
theorem rcells_len {cap fuse : Int} {lost : Bool} {zs : List RSlot} (h8 : zs.length = 8) : (rcells cap zs fuse lost).length = 27 := by rw [rcells, List.length_cons, List.length_append, rflat_len, h8]; rfl
theorem rcells_at {cap fuse : Int} {lost : Bool} {zs : List RSlot} {n k : Nat} (hn : n < zs.length) (hk : k < 3) : (rcells cap zs fuse lost)[1 + n * 3 + k]? = (rcell zs[n])[k]? := by
  have h1 := flat_get rcell_len zs [.int .i64 fuse, .bool lost] n hn
  rw [rcells, show 1 + n * 3 + k = (n * 3 + k) + 1 by omega, List.getElem?_cons_succ, ← h1, List.getElem?_take, if_pos hk, List.getElem?_drop]
theorem rcells_fuse {cap fuse : Int} {lost : Bool} {zs : List RSlot} (h8 : zs.length = 8) : (rcells cap zs fuse lost)[25]? = some (.int .i64 fuse) := by
  rw [rcells, List.getElem?_cons_succ, List.getElem?_append_right (by rw [rflat_len, h8]; omega), rflat_len, h8]
  rfl
theorem rcells_lost {cap fuse : Int} {lost : Bool} {zs : List RSlot} (h8 : zs.length = 8) : (rcells cap zs fuse lost)[26]? = some (.bool lost) := by
  rw [rcells, List.getElem?_cons_succ, List.getElem?_append_right (by rw [rflat_len, h8]; omega), rflat_len, h8]
  rfl
theorem rcells_setL {cap fuse : Int} {lost v : Bool} {zs : List RSlot} (h8 : zs.length = 8) : splice (rcells cap zs fuse lost) 26 [.bool v] = rcells cap zs fuse v := by
  rw [splice, splice, rcells, rcells, List.set_cons_succ, List.set_append_right _ _ (by rw [rflat_len, h8]; omega), rflat_len, h8]
  rfl
theorem rcells_setF {cap fuse v : Int} {lost : Bool} {zs : List RSlot} (h8 : zs.length = 8) : splice (rcells cap zs fuse lost) 25 [.int .i64 v] = rcells cap zs v lost := by
  rw [splice, splice, rcells, rcells, List.set_cons_succ, List.set_append_right _ _ (by rw [rflat_len, h8]; omega), rflat_len, h8]
  rfl
theorem rcells_set {cap fuse : Int} {lost : Bool} {zs : List RSlot} {n : Nat} (hn : n < zs.length) (z : RSlot) : splice (rcells cap zs fuse lost) (1 + n * 3) (rcell z) = rcells cap (zs.set n z) fuse lost := by
  have h1 := flat_set rcell_len zs n z [.int .i64 fuse, .bool lost] hn
  have h2 : ∀ (x : Value) (vs c : List Value) (off : Nat), splice (x :: c) (off + 1) vs = x :: splice c off vs := by
    intro x vs
    induction vs with
    | nil => intro c off; rfl
    | cons v vs ih => intro c off; rw [splice, List.set_cons_succ, ih]; rfl
  rw [rcells, Nat.add_comm, h2, h1]
  rfl

theorem RNew_ok (c : Int) {h0 h : Heap} {l : List HP} (S : St h0 h l) :
    CallsH Try.prog 47 [.int .i64 c] h fun v h' => ∃ w, v = .pointer (some ⟨w, 0, none⟩) ∧ St h0 h' (refA w ⟨c, List.replicate 8 none, -1, false⟩ :: l) := by
  (refine enterK c_recoupref01_New (Nat.le_of_ble_eq_true rfl) fun K hK => ?_; (try simp (maxSteps := 1000000) (disch := first | omega | assumption | exact Nat.le_of_ble_eq_true rfl) only [go_sem, ↓mwp_block, simprocAttr, ir_recoupref01_New]))
  (refine st_alloc S ?_; clear S; intro w h S; (try simp only [splice_cons, splice_nil, List.set_cons_zero, List.set_cons_succ, Nat.zero_add, Nat.reduceAdd, List.cons_append, List.nil_append] at S); ((try clear F); have F := S.all; (try simp only [all_cons, all_nil, says_cell, and_true] at F)))
  (try simp (maxSteps := 1000000) (disch := first | omega | assumption | exact Nat.le_of_ble_eq_true rfl) only [go_sem, ↓mwp_block, simprocAttr])
  refine hK _ _ ⟨w, rfl, refA_open.2 ⟨List.replicate 8 (.slice none 0 0, none), rfl, rfl, ?_⟩⟩
  have N : ∀ {l : List HP}, St h0 h l → St h0 h (rslotA (.slice none 0 0, none) :: l) := fun S => S.nilS
  exact (N (N (N (N (N (N (N (N S)))))))).p8
theorem RRoom_ok {h0 h : Heap} {l : List HP} {w : Nat} {D : Dk} (S : St h0 h (refA w D :: l)) (ok : D.ok) :
    CallsH Try.prog 88 [.pointer (some ⟨w, 0, none⟩)] h fun v h' => v = .int .i64 (D.cap - used D.fs) ∧ h' = h := by
  have hcap := ok.cap
  have hroom := ok.room
  have hlen := ok.len
  (refine enterK c_recoupref01_Disk_Room (Nat.le_of_ble_eq_true rfl) fun K hK => ?_; (try simp (maxSteps := 1000000) (disch := first | omega | assumption | exact Nat.le_of_ble_eq_true rfl) only [go_sem, ↓mwp_block, simprocAttr, ir_recoupref01_Disk_Room]))
  obtain ⟨zs, hz, h8, S⟩ := refA_open.1 S
  ((try clear F); have F := S.all; (try simp only [all_cons, all_nil, says_cell, and_true] at F))
  have hc0 : (rcells D.cap zs D.fuse D.lost)[0]? = some (.int .i64 D.cap) := rfl
  (try simp (maxSteps := 1000000) (disch := first | omega | assumption | exact Nat.le_of_ble_eq_true rfl) only [go_sem, ↓mwp_block, simprocAttr, F, hc0])
  refine loop_intro (fun ρ h' => h' = h ∧ ρ 0 = .pointer (some ⟨w, 0, none⟩) ∧ ∃ i : Nat, ρ 9 = .int .i64 i ∧ i ≤ 8 ∧ ρ 3 = .int .i64 (D.cap - used (D.fs.take i))) (fun ρ _ => 8 - (iv (ρ 9)).toNat) ?_ ?_
  · (try simp (maxSteps := 1000000) (disch := first | omega | assumption | exact Nat.le_of_ble_eq_true rfl) only [go_sem, ↓mwp_block, simprocAttr])
    exact ⟨0, rfl, by omega, by simp [used]⟩
  · rintro ρ h' J hJ ⟨hh, e0, i, e9, hi, e3⟩
    subst hh
    (try simp (maxSteps := 1000000) (disch := first | omega | assumption | exact Nat.le_of_ble_eq_true rfl) only [go_sem, ↓mwp_block, simprocAttr, e9])
    refine cond_dec (fun hg => ?_) (fun hg => ?_)
    · have hi8 : i < D.fs.length := by omega
      have hlt : i < zs.length := by omega
      have hsu := used_take D.fs hi8
      have hle := used_take_le D.fs (i + 1)
      have hc := rcells_at (cap := D.cap) (fuse := D.fuse) (lost := D.lost) (k := 1) hlt (by omega)
      have hfs : D.fs[i] = (zs[i]).2 := by
        have : D.fs[i]? = (zs.map Prod.snd)[i]? := by rw [hz]
        rw [List.getElem?_map, List.getElem?_eq_getElem hi8, List.getElem?_eq_getElem hlt] at this
        exact Option.some.inj this
      have Sp := row_pick hlt S
      rw [hfs] at hsu
      generalize zs[i] = z at hc hsu Sp
      obtain ⟨s, o⟩ := z
      obtain ⟨B, e, hs⟩ := St.sl (xs := bsF o) Sp
      simp only at hs hsu
      subst hs
      have hso : szF o = (bsF o).length := by cases o <;> rfl
      rw [hso] at hsu
      simp only [rcell, List.getElem?_cons_succ, List.getElem?_cons_zero] at hc
      (try simp (maxSteps := 1000000) (disch := first | omega | assumption | exact Nat.le_of_ble_eq_true rfl) only [go_sem, ↓mwp_block, simprocAttr, e0, e9, e3, F, hc])
      refine hJ _ _ ?_ ?_
      · (try simp (maxSteps := 1000000) (disch := first | omega | assumption | exact Nat.le_of_ble_eq_true rfl) only [go_sem, ↓mwp_block, simprocAttr, e0, e9])
        refine ⟨i + 1, rfl, by omega, ?_⟩
        rw [hsu]
        congr 1
        omega
      · (try simp (maxSteps := 1000000) (disch := first | omega | assumption | exact Nat.le_of_ble_eq_true rfl) only [go_sem, ↓mwp_block, simprocAttr, e9])
        omega
    · obtain rfl : i = 8 := by omega
      (try simp (maxSteps := 1000000) (disch := first | omega | assumption | exact Nat.le_of_ble_eq_true rfl) only [go_sem, ↓mwp_block, simprocAttr, e3])
      exact hK _ _ ⟨by rw [← hlen, List.take_length], rfl⟩
end Go.Proofs.Ytnjjdpeglkiifaa.MX
