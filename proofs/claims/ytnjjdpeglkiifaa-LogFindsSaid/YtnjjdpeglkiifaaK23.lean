/- Texts in one file: Lg8, Fr10, Fr11, Lg9, Lt1. -/
import Derived.Test.YtnjjdpeglkiifaaK22
import Derived.Test.YtnjjdpeglkiifaaK21

/- The log: Image, Records, and whether a log has them. -/
namespace Go.Proofs.Ytnjjdpeglkiifaa.MX
open Go Go.Proofs
set_option linter.unusedSimpArgs false
set_option linter.unusedVariables false
set_option maxHeartbeats 8000000
/-- Small enough to be read. -/
structure Lg.ok (L : Lg) : Prop where
  img : L.img.length < 1000000000
  len : L.recs.length < 1000000
  recs : ∀ x ∈ L.recs, x.length < 1000000000
section
variable {h0 h : Heap} {l : List HP} {p d : Nat} {L : Lg}
theorem Image_ok (hi : L.img.length < 1000000000) (S : St h0 h (logA p d L :: l)) : CallsH Try.prog 79 [.pointer (some ⟨p, 0, none⟩)] h fun v h' => St h0 h' (ownA bEnc 1 5 v L.img :: logA p d L :: l) := by
  have S0 := S
  obtain ⟨im, rs, S⟩ := logA_open.1 S
  (refine enterK c_log_Log_Image (Nat.le_of_ble_eq_true rfl) fun K hK => ?_; (try simp (maxSteps := 1000000) (disch := first | omega | assumption | exact Nat.le_of_ble_eq_true rfl) only [go_sem, ↓mwp_block, simprocAttr, ir_log_Log_Image]))
  ((try clear F); have F := S.all; (try simp only [all_cons, all_nil, says_cell, and_true] at F))
  have S1 := S.tl
  obtain ⟨A, c, rfl, _, _, S1⟩ := imgA_open.1 S1
  have ha := S1.view (x := (A, L.img)) (by simp)
  (try simp (maxSteps := 1000000) (disch := first | omega | assumption | exact Nat.le_of_ble_eq_true rfl) only [go_sem, ↓mwp_block, simprocAttr, F])
  refine call_intro (CloneB_ok S0 ha rfl (arr_noneB ha) hi) ?_
  rintro v h ⟨S, _⟩
  (try simp (maxSteps := 1000000) (disch := first | omega | assumption | exact Nat.le_of_ble_eq_true rfl) only [go_sem, ↓mwp_block, simprocAttr])
  exact hK _ _ S
def nilBz : Bz := ⟨none, 0, []⟩
theorem bz_fill (us : List Bz) (m : Nat) (z : Bz) : (us ++ List.replicate (m + 1) nilBz).set us.length z = (us ++ [z]) ++ List.replicate m nilBz := by
  rw [List.set_append_right _ _ (Nat.le_refl _), Nat.sub_self, List.replicate_succ, List.set_cons_zero]
  simp
def logC (p d : Nat) (L : Lg) (im rs : Value) : HP := cellA p [.pointer (some ⟨d, 0, none⟩), .int .i64 L.file, .int .i64 L.gen, im, rs, .bool L.over] 115
def logO (p d : Nat) (L : Lg) (im : Value) (A : Option Addr) (c : Nat) (zs : List Bz) : HP := starsA (logC p d L im (.slice A zs.length c) :: ownA Bz.enc 1 23 (.slice A zs.length c) zs :: imgA im L.img :: zs.map bRow)
theorem logO_of (S : St h0 h (logA p d L :: l)) : ∃ im A c zs, zs.map Bz.ys = L.recs ∧ St h0 h (logO p d L im A c zs :: l) := by
  obtain ⟨im, rs, S⟩ := logA_open.1 S
  obtain ⟨zs, hz, S⟩ := lsA_open.1 S.p2
  obtain ⟨A, c, rfl⟩ := S.sl
  refine ⟨im, A, c, zs, hz, St.stars.2 ?_⟩
  have S1 := St.stars.2 (S.perm (List.perm_middle (l₁ := zs.map bRow)).symm : St h0 h (zs.map bRow ++ _))
  have S2 : St h0 h (starsA (zs.map bRow) :: logC p d L im (.slice A zs.length c) :: ownA Bz.enc 1 23 (.slice A zs.length c) zs :: imgA im L.img :: l) := by
    unfold logC
    (refine St.perm S1 ?_; repeat (with_reducible first | exact List.Perm.refl _ | refine pm0 ?_ | refine pm1 ?_ | refine pm2 ?_ | refine pm3 ?_ | refine pm4 ?_ | refine pm5 ?_ | refine pm6 ?_ | refine pm7 ?_ | refine pm8 ?_ | refine pm9 ?_ | refine pm10 ?_ | refine pm11 ?_ | refine pm12 ?_))
  refine (St.stars.1 S2).perm ?_
  simp only [List.cons_append]
  exact (List.perm_middle (l₁ := zs.map bRow)).trans (List.Perm.cons _ (List.perm_middle.trans (List.Perm.cons _ List.perm_middle)))
theorem logO_to {im : Value} {A : Option Addr} {c : Nat} {zs : List Bz} (hz : zs.map Bz.ys = L.recs) (S : St h0 h (logO p d L im A c zs :: l)) : St h0 h (logA p d L :: l) := by
  have S := St.stars.1 S
  simp only [List.cons_append] at S
  have S1 := S.perm ((List.Perm.cons _ (List.Perm.cons _ List.perm_middle.symm)).trans ((List.Perm.cons _ List.perm_middle.symm).trans List.perm_middle.symm))
  have S2 := St.stars.2 S1
  have S3 : St h0 h (ownA Bz.enc 1 23 (.slice A zs.length c) zs :: starsA (zs.map bRow) :: logC p d L im (.slice A zs.length c) :: imgA im L.img :: l) := by
    (refine St.perm S2 ?_; repeat (with_reducible first | exact List.Perm.refl _ | refine pm0 ?_ | refine pm1 ?_ | refine pm2 ?_ | refine pm3 ?_ | refine pm4 ?_ | refine pm5 ?_ | refine pm6 ?_ | refine pm7 ?_ | refine pm8 ?_ | refine pm9 ?_ | refine pm10 ?_ | refine pm11 ?_ | refine pm12 ?_))
  have S4 : St h0 h (lsA (.slice A zs.length c) L.recs :: logC p d L im (.slice A zs.length c) :: imgA im L.img :: l) := lsA_open.2 ⟨zs, hz, (St.stars.1 S3.p1).perm (List.perm_middle (l₁ := zs.map bRow))⟩
  refine logA_open.2 ⟨im, .slice A zs.length c, ?_⟩
  unfold logC at S4
  (refine St.perm S4 ?_; repeat (with_reducible first | exact List.Perm.refl _ | refine pm0 ?_ | refine pm1 ?_ | refine pm2 ?_ | refine pm3 ?_ | refine pm4 ?_ | refine pm5 ?_ | refine pm6 ?_ | refine pm7 ?_ | refine pm8 ?_ | refine pm9 ?_ | refine pm10 ?_ | refine pm11 ?_ | refine pm12 ?_))
theorem Records_ok (hr : L.recs.length < 1000000) (hs : ∀ x ∈ L.recs, x.length < 1000000000) (S : St h0 h (logA p d L :: l)) : CallsH Try.prog 81 [.pointer (some ⟨p, 0, none⟩)] h fun v h' => St h0 h' (lsA v L.recs :: logA p d L :: l) := by
  obtain ⟨im, A, c, zs, hz, S0⟩ := logO_of S
  have hzl : zs.length = L.recs.length := by rw [← hz, List.length_map]
  have hzs : ∀ z ∈ zs, z.ys.length < 1000000000 := fun z h => hs _ (by rw [← hz]; exact List.mem_map_of_mem h)
  clear S
  (refine enterK c_log_Log_Records (Nat.le_of_ble_eq_true rfl) fun K hK => ?_; (try simp (maxSteps := 1000000) (disch := first | omega | assumption | exact Nat.le_of_ble_eq_true rfl) only [go_sem, ↓mwp_block, simprocAttr, ir_log_Log_Records]))
  have S := St.stars.1 S0
  simp only [logC, List.cons_append] at S
  ((try clear F); have F := S.all; (try simp only [all_cons, all_nil, says_cell, and_true] at F))
  (try simp (maxSteps := 1000000) (disch := first | omega | assumption | exact Nat.le_of_ble_eq_true rfl) only [go_sem, ↓mwp_block, simprocAttr, F])
  refine st_make (enc := Bz.enc) nilBz bz_len rfl S0 (by omega) (by omega) ?_
  clear S F S0
  intro v h S0
  have S := St.stars.1 S0.tl
  simp only [logC, List.cons_append] at S
  ((try clear F); have F := S.all; (try simp only [all_cons, all_nil, says_cell, and_true] at F))
  (try simp (maxSteps := 1000000) (disch := first | omega | assumption | exact Nat.le_of_ble_eq_true rfl) only [go_sem, ↓mwp_block, simprocAttr, F])
  refine loop_intro (fun ρ h' => ρ 3 = v ∧ ρ 17 = .slice A zs.length c ∧ ρ 18 = .int .i64 zs.length ∧ ∃ us : List Bz, ρ 19 = .int .i64 us.length ∧ us.length ≤ zs.length ∧ us.map Bz.ys = (zs.take us.length).map Bz.ys ∧
    St h0 h' (ownA Bz.enc 1 23 v (us ++ List.replicate (zs.length - us.length) nilBz) :: (us.map bRow ++ (logO p d L im A c zs :: l)))) (fun ρ _ => zs.length - (iv (ρ 19)).toNat) ?_ ?_
  · (try simp (maxSteps := 1000000) (disch := first | omega | assumption | exact Nat.le_of_ble_eq_true rfl) only [go_sem, ↓mwp_block, simprocAttr])
    exact ⟨[], rfl, by simp, rfl, S0⟩
  clear S F S0
  rintro ρ h J hJ ⟨e3, e17, e18, us, e19, hu, hus, S⟩
  (try simp (maxSteps := 1000000) (disch := first | omega | assumption | exact Nat.le_of_ble_eq_true rfl) only [go_sem, ↓mwp_block, simprocAttr, e18, e19])
  refine cond_dec (fun hlt => ?_) (fun hlt => ?_)
  case refine_2 =>
    (try simp (maxSteps := 1000000) (disch := first | omega | assumption | exact Nat.le_of_ble_eq_true rfl) only [go_sem, ↓mwp_block, simprocAttr, e3])
    have hul : us.length = zs.length := by omega
    rw [hul, List.take_length] at hus
    rw [hul, Nat.sub_self, List.replicate_zero, List.append_nil] at S
    have S1 := S.perm (List.perm_middle (l₁ := ownA Bz.enc 1 23 v us :: us.map bRow))
    have S2 := logO_to hz S1
    exact hK _ _ (lsA_open.2 ⟨us, by rw [hus, hz], S2.perm (List.perm_middle (l₁ := ownA Bz.enc 1 23 v us :: us.map bRow)).symm⟩)
  have hi : us.length < zs.length := by omega
  have S1 := St.stars.1 (St.dropL (ps := us.map bRow) S.tl)
  simp only [List.cons_append] at S1
  have hrow := row_says S1.tl.tl.tl
  have ha := S1.tl.arr bz_len
  have hm := List.getElem_mem hi
  have hn := hzs _ hm
  have hpre := List.take_succ_eq_append_getElem hi
  obtain ⟨bb, off, rfl, hrd⟩ := ha.at hi
  obtain ⟨B, _, ho⟩ := hrow _ hm
  have harr := (ho.arr bEnc_len).1
  generalize zs[us.length] = z at *
  have hr1 := rd1_part (k := 0) hrd
  simp only [Nat.mul_one, Nat.add_zero] at hr1
  (try simp (maxSteps := 1000000) (disch := first | omega | assumption | exact Nat.le_of_ble_eq_true rfl) only [go_sem, ↓mwp_block, simprocAttr, e17, hr1, e19, Nat.mul_one, Bz.enc])
  refine call_intro (CloneB_ok S harr rfl (arr_noneB harr) hn) ?_
  clear S S1 hrow ha hrd hr1 ho harr
  rintro v1 h ⟨S, _⟩
  obtain ⟨A1, c1, rfl⟩ := S.sl
  obtain ⟨m, hmm⟩ : ∃ m, zs.length - us.length = m + 1 := ⟨zs.length - us.length - 1, by omega⟩
  rw [hmm] at S
  have S := S.p1
  obtain ⟨vb, cv, rfl⟩ : ∃ vb cv, v = .slice (some ⟨vb, 0, none⟩) zs.length cv := by
    obtain ⟨Av, cv, rfl⟩ := S.sl
    obtain ⟨b, rfl⟩ := S.ownAt (by simp; omega)
    refine ⟨b, cv, ?_⟩
    congr 1
    simp; omega
  (try simp (maxSteps := 1000000) (disch := first | omega | assumption | exact Nat.le_of_ble_eq_true rfl) only [go_sem, ↓mwp_block, simprocAttr, e3, e19, Nat.mul_one])
  refine st_setOwn (x := (⟨A1, c1, z.ys⟩ : Bz)) bz_len S (i := us.length) (by simp) (by omega) rfl rfl rfl ?_
  clear S
  intro h S
  rw [bz_fill] at S
  (try simp (maxSteps := 1000000) (disch := first | omega | assumption | exact Nat.le_of_ble_eq_true rfl) only [go_sem, ↓mwp_block, simprocAttr, e19])
  refine hJ _ _ ?_ ?_
  · (try simp (maxSteps := 1000000) (disch := first | omega | assumption | exact Nat.le_of_ble_eq_true rfl) only [go_sem, ↓mwp_block, simprocAttr, e3, e17, e18])
    refine ⟨us ++ [⟨A1, c1, z.ys⟩], by simp, by simp; omega, ?_, ?_⟩
    · rw [List.map_append, List.length_append, hus]
      simp [hpre]
    · have e : zs.length - (us ++ [(⟨A1, c1, z.ys⟩ : Bz)]).length = m := by simp; omega
      rw [e, List.map_append, List.append_assoc (us.map bRow)]
      refine S.perm ?_
      exact List.Perm.cons _ (List.perm_middle.symm)
  · (try simp (maxSteps := 1000000) (disch := first | omega | assumption | exact Nat.le_of_ble_eq_true rfl) only [go_sem, ↓mwp_block, simprocAttr, e19])
    omega
theorem Same_ok {A B : Option Addr} {c c' : Nat} {img : List UInt8} {ws : List Bz} (ok : L.ok) (S : St h0 h (logA p d L :: l)) (ha : ∀ h', St h0 h' (logA p d L :: l) → Arr bEnc 1 h' A img) (hr : ∀ h', St h0 h' (logA p d L :: l) → RL h' B ws) (hi : img.length < 1000000000) (hw : ∀ w ∈ ws, w.ys.length < 1000000000) (hw2 : ws.length < 1000000) :
    CallsH Try.prog 43 [.pointer (some ⟨p, 0, none⟩), .slice A img.length c, .slice B ws.length c'] h fun v h' => v = .bool (dcd (L.img = img ∧ L.recs = ws.map Bz.ys)) ∧ St h0 h' (logA p d L :: l) := by
  have hb : ∀ h1, Arr bEnc 1 h1 A img → True := fun _ _ => trivial
  (refine enterK c_recouplaw04_Same (Nat.le_of_ble_eq_true rfl) fun K hK => ?_; (try simp (maxSteps := 1000000) (disch := first | omega | assumption | exact Nat.le_of_ble_eq_true rfl) only [go_sem, ↓mwp_block, simprocAttr, ir_recouplaw04_Same]))
  refine call_intro (Image_ok ok.img S) ?_
  clear S
  intro v h S
  obtain ⟨A1, c1, rfl⟩ := S.sl
  (try simp (maxSteps := 1000000) (disch := first | omega | assumption | exact Nat.le_of_ble_eq_true rfl) only [go_sem, ↓mwp_block, simprocAttr])
  refine call_intro (Bytes_ok (S.arr bEnc_len) (ha _ S.tl) ok.img hi) ?_
  rintro _ _ ⟨rfl, rfl⟩
  by_cases h1 : L.img = img
  case neg =>
    rw [dcd_false h1]
    (try simp (maxSteps := 1000000) (disch := first | omega | assumption | exact Nat.le_of_ble_eq_true rfl) only [go_sem, ↓mwp_block, simprocAttr])
    exact hK _ _ ⟨by rw [dcd_false fun hx => h1 hx.1], S.tl⟩
  rw [dcd_true h1]
  (try simp (maxSteps := 1000000) (disch := first | omega | assumption | exact Nat.le_of_ble_eq_true rfl) only [go_sem, ↓mwp_block, simprocAttr])
  have S := S.tl
  refine call_intro (Records_ok ok.len ok.recs S) ?_
  clear S
  intro v h S
  obtain ⟨A2, c2, rfl⟩ := lsA_sl S
  obtain ⟨zs, hz, hn, r⟩ := rl_of S
  have hzl : L.recs.length = zs.length := by rw [← hz, List.length_map]
  have hzs : ∀ z ∈ zs, z.ys.length < 1000000000 := fun z h => ok.recs _ (by rw [← hz]; exact List.mem_map_of_mem h)
  have hrl := ok.len
  have hL := Lists_ok (c := c2) (d := c') r (hr _ S.tl) hzs hw (by omega) (by omega)
  rw [hz, ← hzl] at hL
  (try simp (maxSteps := 1000000) (disch := first | omega | assumption | exact Nat.le_of_ble_eq_true rfl) only [go_sem, ↓mwp_block, simprocAttr])
  refine call_intro hL ?_
  rintro _ _ ⟨rfl, rfl⟩
  by_cases h2 : L.recs = ws.map Bz.ys
  case neg =>
    rw [dcd_false h2]
    (try simp (maxSteps := 1000000) (disch := first | omega | assumption | exact Nat.le_of_ble_eq_true rfl) only [go_sem, ↓mwp_block, simprocAttr])
    exact hK _ _ ⟨by rw [dcd_false fun hx => h2 hx.2], S.tl⟩
  rw [dcd_true h2]
  (try simp (maxSteps := 1000000) (disch := first | omega | assumption | exact Nat.le_of_ble_eq_true rfl) only [go_sem, ↓mwp_block, simprocAttr])
  refine call_intro (LenL_ok S.tl) ?_
  rintro _ _ ⟨rfl, rfl⟩
  have hl : L.recs.length = ws.length := by rw [h2, List.length_map]
  rw [hl]
  (try simp (maxSteps := 1000000) (disch := first | omega | assumption | exact Nat.le_of_ble_eq_true rfl) only [go_sem, ↓mwp_block, simprocAttr])
  exact hK _ _ ⟨by rw [dcd_true ⟨h1, h2⟩], S.tl⟩
end
end Go.Proofs.Ytnjjdpeglkiifaa.MX

/- The reference's frames. -/
namespace Go.Proofs.Ytnjjdpeglkiifaa.MX
open Go Go.Proofs
set_option linter.unusedSimpArgs false
set_option linter.unusedVariables false
set_option maxRecDepth 100000

/-- What of the first frame's head is wrong, in the reference's words. -/
theorem no8 {d : List UInt8} (h : d.length < 8) : firstOf d = none := firstOf_no fun ho => by
  obtain ⟨g1, _, g3, _, g5, _⟩ := ho
  omega
theorem no165 {d : List UInt8} {x : UInt8} (h : d[0]? = some x) (hx : ¬ (x.toNat : Int) = 165) : firstOf d = none := firstOf_no fun ho => by
  have := ho.2.1
  rw [h] at this
  cases this
  exact hx rfl

set_option maxHeartbeats 4000000 in
theorem RefFrames_ok {h0 h : Heap} {l : List HP} {A : Option Addr} {c : Nat} {b : List UInt8} (S : St h0 h l) (ha : ∀ h', St h0 h' l → Arr bEnc 1 h' A b) (hc : b.length ≤ c) (hc2 : c < 9223372036854775808) (hl : b.length < 10000000) :
    CallsH Try.prog 90 [.slice A b.length c] h fun r h' => ∃ s1 s2, r = .tuple #[s1, s2] ∧ St h0 h' (lsA s1 (framesOf b) :: ownA iEnc 1 3 s2 (placesOf (framesOf b)) :: l) := by
  have hfl := frames_lt b
  (refine enterK c_recoupref01_Frames (Nat.le_of_ble_eq_true rfl) fun K hK => ?_; (try simp (maxSteps := 1000000) (disch := first | omega | assumption | exact Nat.le_of_ble_eq_true rfl) only [go_sem, ↓mwp_block, simprocAttr, ir_recoupref01_Frames]))
  have S : St h0 h (lsA (.slice none 0 0) [] :: ownA iEnc 1 3 (.slice none 0 0) [] :: l) := lsA_open.2 ⟨[], rfl, S.nilS.nilS⟩
  refine loop_intro (fun ρ h' => ρ 0 = .slice A b.length c ∧ ∃ (i : Nat) (s1 s2 : Value), ρ 4 = s1 ∧ ρ 5 = s2 ∧ i ≤ (framesOf b).length ∧ ρ 6 = .int .i64 (endOf ((framesOf b).take i) : Nat) ∧ St h0 h' (lsA s1 ((framesOf b).take i) :: ownA iEnc 1 3 s2 (placesOf ((framesOf b).take i)) :: l)) (fun ρ _ => b.length - (iv (ρ 6)).toNat) ?_ ?_
  · (try simp (maxSteps := 1000000) (disch := first | omega | assumption | exact Nat.le_of_ble_eq_true rfl) only [go_sem, ↓mwp_block, simprocAttr])
    exact ⟨0, _, _, rfl, rfl, Nat.zero_le _, rfl, S⟩
  · clear S
    rintro ρ h J hJ ⟨e0, i, s1, s2, e4, e5, hi, e6, S⟩
    obtain ⟨hd1, hd2⟩ := framesOf_drop i b hi
    have hfe := framesOf_eq (b.drop (endOf ((framesOf b).take i)))
    rw [hd1] at hfe
    have hdl : (b.drop (endOf ((framesOf b).take i))).length = b.length - endOf ((framesOf b).take i) := List.length_drop
    have hd0 : (b.drop (endOf ((framesOf b).take i)))[0]? = b[endOf ((framesOf b).take i)]? := by rw [List.getElem?_drop, Nat.add_zero]
    -- no frame is left: the loop ends
    have fin : ∀ {h : Heap}, firstOf (b.drop (endOf ((framesOf b).take i))) = none → St h0 h (lsA s1 ((framesOf b).take i) :: ownA iEnc 1 3 s2 (placesOf ((framesOf b).take i)) :: l) → ∃ t1 t2, Value.tuple #[s1, s2] = .tuple #[t1, t2] ∧ St h0 h (lsA t1 (framesOf b) :: ownA iEnc 1 3 t2 (placesOf (framesOf b)) :: l) := fun hn S => by
      rw [hn] at hfe
      simp only [List.drop_eq_nil_iff] at hfe
      rw [List.take_of_length_le hfe] at S
      exact ⟨s1, s2, rfl, S⟩
    generalize hat : endOf ((framesOf b).take i) = at' at *
    generalize hdd : b.drop at' = d at *
    by_cases g1 : d.length < 8
    · (try simp (maxSteps := 1000000) (disch := first | omega | assumption | exact Nat.le_of_ble_eq_true rfl) only [go_sem, ↓mwp_block, simprocAttr, e0, e6, e4, e5])
      exact hK _ _ (fin (no8 g1) S)
    have hlt : at' < b.length := by omega
    obtain ⟨bk, off, rfl, hr0⟩ := (ha h S.tl.tl).at hlt
    have hb0 : d[0]? = some b[at'] := by rw [hd0, List.getElem?_eq_getElem hlt]
    have p0 := rd1_part (k := 0) hr0
    simp only [bEnc, Nat.add_zero, List.getElem?_cons_zero, Nat.mul_one] at p0
    generalize b[at'] = x0 at hb0 p0
    by_cases g2 : (x0.toNat : Int) = 165
    case neg =>
      (try simp (maxSteps := 1000000) (disch := first | omega | assumption | exact Nat.le_of_ble_eq_true rfl) only [go_sem, ↓mwp_block, simprocAttr, e0, e6, e4, e5, p0, Nat.mul_one])
      exact hK _ _ (fin (no165 hb0 g2) S)
    have hx0 : x0 = 165 := by
      apply UInt8.toNat_inj.1
      have : x0.toNat = 165 := by omega
      simpa using this
    have k1 : (d.drop 1).take 2 = (b.drop (at' + 1)).take 2 := by rw [← hdd, List.drop_drop]
    have k3 : (d.drop 3).take 4 = (b.drop (at' + 3)).take 4 := by rw [← hdd, List.drop_drop]
    have hN : frN d = num ((b.drop (at' + 1)).take 2) := by rw [frN, k1]
    have hN0 : 0 ≤ frN d := num_nonneg _
    have hN1 : frN d < 65536 := by
      have := num_lt ((d.drop 1).take 2)
      have h2 : ((d.drop 1).take 2).length = 2 := by simp; omega
      rw [h2] at this
      exact this
    have hb1 : ∀ h', St h0 h' l → ∀ n m, Arr bEnc 1 h' (some ⟨bk, off + n, none⟩) ((b.drop n).take m) := fun h' S n m => arr_take (arr_drop (ha h' S) n) m
    (try simp (maxSteps := 1000000) (disch := first | omega | assumption | exact Nat.le_of_ble_eq_true rfl) only [go_sem, ↓mwp_block, simprocAttr, e0, e6, p0, Nat.mul_one])
    refine call_intro (Number2_ok (ys := (b.drop (at' + 1)).take 2) ?_ (by simp; omega) (by simp; omega)) ?_
    · have := hb1 h S.tl.tl (at' + 1) 2
      rw [show off + (at' + 1) = off + ((at' : Int) + 1).toNat by omega] at this
      exact this
    rintro _ _ ⟨rfl, rfl⟩
    rw [← hN]
    by_cases g3 : frN d < 1
    · (try simp (maxSteps := 1000000) (disch := first | omega | assumption | exact Nat.le_of_ble_eq_true rfl) only [go_sem, ↓mwp_block, simprocAttr, e0, e6, e4, e5])
      exact hK _ _ (fin (firstOf_no fun h => h.2.2.1 g3) S)
    by_cases g4 : 60000 < frN d
    · (try simp (maxSteps := 1000000) (disch := first | omega | assumption | exact Nat.le_of_ble_eq_true rfl) only [go_sem, ↓mwp_block, simprocAttr, e0, e6, e4, e5])
      exact hK _ _ (fin (firstOf_no fun h => h.2.2.2.1 g4) S)
    by_cases g5 : (b.length : Int) < at' + 7 + frN d
    · (try simp (maxSteps := 1000000) (disch := first | omega | assumption | exact Nat.le_of_ble_eq_true rfl) only [go_sem, ↓mwp_block, simprocAttr, e0, e6, e4, e5])
      exact hK _ _ (fin (firstOf_no fun h => h.2.2.2.2.1 (by omega)) S)
    have hat0 : ((at' : Int) + 1).toNat = at' + 1 := by omega
    have hat3 : ((at' : Int) + 3).toNat = at' + 3 := by omega
    have hat7 : ((at' : Int) + 7).toNat = at' + 7 := by omega
    (try simp (maxSteps := 1000000) (disch := first | omega | assumption | exact Nat.le_of_ble_eq_true rfl) only [go_sem, ↓mwp_block, simprocAttr, e0, e6, hat0, hat3, hat7, Nat.mul_one])
    (refine st_alloc S ?_; clear S; intro q h S; (try simp only [splice_cons, splice_nil, List.set_cons_zero, List.set_cons_succ, Nat.zero_add, Nat.reduceAdd, List.cons_append, List.nil_append] at S); ((try clear F); have F := S.all; (try simp only [all_cons, all_nil, says_cell, and_true] at F)))
    have S := S.cellOwn (enc := bEnc) (sz := 1) (ys := []) bEnc_len rfl (by decide)
    have h2l : ((b.drop (at' + 1)).take 2).length = 2 := by simp; omega
    have h4l : ((b.drop (at' + 3)).take 4).length = 4 := by simp; omega
    have hXe : frX d = (b.drop (at' + 7)).take (frN d).toNat := by rw [frX, ← hdd, List.drop_drop]
    have hXl : (frX d).length = (frN d).toNat := by rw [hXe]; simp; omega
    (try simp (maxSteps := 1000000) (disch := first | omega | assumption | exact Nat.le_of_ble_eq_true rfl) only [go_sem, ↓mwp_block, simprocAttr, e0, e6, hat0, hat3, hat7, Nat.mul_one])
    refine st_append (bytes := 1) (xs := []) (ys := (b.drop (at' + 1)).take 2) bEnc_len (by omega) bEnc_plain rfl S (by simp [srcLen]; omega) (src_arr bEnc_len (hb1 _ S.tl.tl.tl _ _) (by simp; omega)) (by simp; omega) (by simp; omega) ?_
    clear S F
    intro v1 h S
    rw [List.nil_append] at S
    (try simp (maxSteps := 1000000) (disch := first | omega | assumption | exact Nat.le_of_ble_eq_true rfl) only [go_sem, ↓mwp_block, simprocAttr])
    refine st_append (bytes := 1) (ys := frX d) bEnc_len (by omega) bEnc_plain rfl S (by simp [srcLen]; omega) (src_arr bEnc_len (by rw [hXe]; exact hb1 _ S.tl.tl.tl _ _) (by omega)) (by omega) (by omega) ?_
    clear S
    intro v2 h S
    obtain ⟨B2, c2, rfl⟩ := S.sl
    (try simp (maxSteps := 1000000) (disch := first | omega | assumption | exact Nat.le_of_ble_eq_true rfl) only [go_sem, ↓mwp_block, simprocAttr, e0, e6, hat0, hat3, hat7, Nat.mul_one])
    refine call_intro (Number2_ok (ys := (b.drop (at' + 3)).take 4) (hb1 _ S.tl.tl.tl _ _) (by simp; omega) (by omega)) ?_
    rintro _ _ ⟨rfl, rfl⟩
    (try simp (maxSteps := 1000000) (disch := first | omega | assumption | exact Nat.le_of_ble_eq_true rfl) only [go_sem, ↓mwp_block, simprocAttr])
    refine call_intro (RefSum_ok (S.arr bEnc_len) (by simp; omega)) ?_
    rintro _ _ ⟨rfl, rfl⟩
    have S := S.tl
    have h4n : 0 ≤ num ((b.drop (at' + 3)).take 4) ∧ num ((b.drop (at' + 3)).take 4) < 4294967296 := by
      have := num_lt ((b.drop (at' + 3)).take 4)
      rw [h4l] at this
      exact ⟨num_nonneg _, this⟩
    have hle : (b.drop (at' + 1)).take 2 = le 2 (frX d).length := by
      have := le_num ((b.drop (at' + 1)).take 2)
      rw [h2l, ← hN] at this
      rw [← this]
      congr 1
      omega
    have hsm : sumOf ((b.drop (at' + 1)).take 2 ++ frX d) = fsum (frX d) := by rw [hle]; rfl
    have hfs : fsum (frX d) < 4294967296 := sum_lt _
    rw [hsm]
    by_cases g6 : num ((b.drop (at' + 3)).take 4) = fsum (frX d)
    case neg =>
      (try simp (maxSteps := 1000000) (disch := first | omega | assumption | exact Nat.le_of_ble_eq_true rfl) only [go_sem, ↓mwp_block, simprocAttr, e4, e5])
      exact hK _ _ (fin (firstOf_no fun h => g6 (by rw [← k3]; exact h.2.2.2.2.2)) S)
    have hyes : firstOf d = some (frX d) := firstOf_yes ⟨by omega, by rw [hb0, hx0], g3, g4, by omega, by rw [k3]; exact g6⟩
    rw [hyes] at hfe
    simp only at hfe
    have hil : i < (framesOf b).length := by
      rcases Nat.lt_or_ge i (framesOf b).length with h1 | h1
      · exact h1
      · rw [List.drop_eq_nil_of_le h1] at hfe; cases hfe
    have hxi : (framesOf b)[i] = frX d := by
      rw [List.drop_eq_getElem_cons hil] at hfe
      exact (List.cons.inj hfe).1
    have htk1 : (framesOf b).take (i + 1) = (framesOf b).take i ++ [frX d] := by rw [List.take_succ_eq_append_getElem hil, hxi]
    have htk : endOf ((framesOf b).take (i + 1)) = at' + (7 + (frX d).length) := by
      rw [htk1, endOf_app, hat]
      simp [endOf]
    have hps := placesOf_succ (framesOf b) hil
    (try simp (maxSteps := 1000000) (disch := first | omega | assumption | exact Nat.le_of_ble_eq_true rfl) only [go_sem, ↓mwp_block, simprocAttr, e4])
    (refine st_alloc S ?_; clear S; intro q1 h S; (try simp only [splice_cons, splice_nil, List.set_cons_zero, List.set_cons_succ, Nat.zero_add, Nat.reduceAdd, List.cons_append, List.nil_append] at S); ((try clear F); have F := S.all; (try simp only [all_cons, all_nil, says_cell, and_true] at F)))
    have S := S.cellOwn (enc := bEnc) (sz := 1) (ys := []) bEnc_len rfl (by decide)
    (try simp (maxSteps := 1000000) (disch := first | omega | assumption | exact Nat.le_of_ble_eq_true rfl) only [go_sem, ↓mwp_block, simprocAttr])
    refine st_append (bytes := 1) (xs := []) (ys := frX d) bEnc_len (by omega) bEnc_plain rfl S (by simp [srcLen]; omega) (src_arr bEnc_len (by rw [hXe]; exact hb1 _ S.tl.tl.tl _ _) (by omega)) (by simp; omega) (by simp; omega) ?_
    clear S F
    intro v3 h S
    rw [List.nil_append] at S
    obtain ⟨B3, c3, rfl⟩ := S.sl
    (try simp (maxSteps := 1000000) (disch := first | omega | assumption | exact Nat.le_of_ble_eq_true rfl) only [go_sem, ↓mwp_block, simprocAttr])
    (refine st_alloc S ?_; clear S; intro q2 h S; (try simp only [splice_cons, splice_nil, List.set_cons_zero, List.set_cons_succ, Nat.zero_add, Nat.reduceAdd, List.cons_append, List.nil_append] at S); ((try clear F); have F := S.all; (try simp only [all_cons, all_nil, says_cell, and_true] at F)))
    (try simp (maxSteps := 1000000) (disch := first | omega | assumption | exact Nat.le_of_ble_eq_true rfl) only [go_sem, ↓mwp_block, simprocAttr])
    refine ls_append (S.p2.p1) (by simp; omega) ?_
    clear S F
    intro v4 h S
    rw [← htk1] at S
    have S := S.p1
    (try simp (maxSteps := 1000000) (disch := first | omega | assumption | exact Nat.le_of_ble_eq_true rfl) only [go_sem, ↓mwp_block, simprocAttr, e5, e6])
    have hee : (at' : Int) + 7 + frN d = ((endOf ((framesOf b).take (i + 1)) : Nat) : Int) := by rw [htk]; omega
    rw [hee]
    (refine st_alloc S ?_; clear S; intro q3 h S; (try simp only [splice_cons, splice_nil, List.set_cons_zero, List.set_cons_succ, Nat.zero_add, Nat.reduceAdd, List.cons_append, List.nil_append] at S); ((try clear F); have F := S.all; (try simp only [all_cons, all_nil, says_cell, and_true] at F)))
    (try simp (maxSteps := 1000000) (disch := first | omega | assumption | exact Nat.le_of_ble_eq_true rfl) only [go_sem, ↓mwp_block, simprocAttr])
    refine st_append1 (bytes := 8) (x := endOf ((framesOf b).take (i + 1))) iEnc_len (by omega) iEnc_plain rfl rfl S (by rw [placesOf_len, List.length_take]; omega) (by rw [placesOf_len, List.length_take]; omega) ?_
    clear S F
    intro v5 h S
    rw [← hps] at S
    (try simp (maxSteps := 1000000) (disch := first | omega | assumption | exact Nat.le_of_ble_eq_true rfl) only [go_sem, ↓mwp_block, simprocAttr, e6])
    refine hJ _ _ ?_ ?_
    · (try simp (maxSteps := 1000000) (disch := first | omega | assumption | exact Nat.le_of_ble_eq_true rfl) only [go_sem, ↓mwp_block, simprocAttr, e0, e6, hee])
      exact ⟨i + 1, _, _, rfl, rfl, hil, rfl, S.p1⟩
    · (try simp (maxSteps := 1000000) (disch := first | omega | assumption | exact Nat.le_of_ble_eq_true rfl) only [go_sem, ↓mwp_block, simprocAttr, e6, hee])
      omega
end Go.Proofs.Ytnjjdpeglkiifaa.MX

/- The law FrameTells. -/
namespace Go.Proofs.Ytnjjdpeglkiifaa.MX
open Go Go.Proofs
set_option linter.unusedSimpArgs false
set_option linter.unusedVariables false
set_option maxRecDepth 100000

theorem tkN_all {m : Int} {l : List (List UInt8)} (h : (l.length : Int) ≤ m) : tkN m l = l := by
  unfold tkN
  split
  · rfl
  · exact List.take_of_length_le (by omega)
theorem frames_small {b x : List UInt8} (h : x ∈ framesOf b) : 1 ≤ x.length ∧ x.length ≤ 60000 := by
  obtain ⟨i, hi, rfl⟩ := List.getElem_of_mem h
  have h1 := (framesOf_drop i b (by omega)).1
  have h2 := framesOf_eq (b.drop (endOf ((framesOf b).take i)))
  rw [h1, List.drop_eq_getElem_cons hi] at h2
  cases hf : firstOf (b.drop (endOf ((framesOf b).take i))) with
  | none => rw [hf] at h2; cases h2
  | some x =>
    rw [hf] at h2
    simp only [List.cons.injEq] at h2
    rw [h2.1]
    exact ⟨(firstOf_some hf).2.2.1, (firstOf_some hf).2.2.2.1⟩
theorem small_of {zs : List Bz} {xs : List (List UInt8)} {n : Nat} (hz : zs.map Bz.ys = xs) (hx : ∀ x ∈ xs, x.length < n) : ∀ z ∈ zs, z.ys.length < n := fun z h => hx _ (by rw [← hz]; exact List.mem_map_of_mem h)
theorem places_at {xs : List (List UInt8)} {i : Nat} (hi : i < (placesOf xs).length) : (placesOf xs)[i] = endOf (xs.take (i + 1)) := by
  simp [placesOf]

theorem rd_arr {α : Type} {enc : α → List Value} {h : Heap} {b o i : Nat} {zs : List α} {v : Value} (ha : Arr enc 1 h (some ⟨b, o, none⟩) zs) (hi : i < zs.length) (he : enc zs[i] = [v]) : rd1 h (.pointer (some ⟨b, o + i, none⟩)) = some v := by
  obtain ⟨b', o', e, hr⟩ := ha.at hi
  cases e
  have := rd1_part (k := 0) hr (by omega)
  rw [he, Nat.mul_one, Nat.add_zero] at this
  exact this
end Go.Proofs.Ytnjjdpeglkiifaa.MX

/- The log: Open. -/
namespace Go.Proofs.Ytnjjdpeglkiifaa.MX
open Go Go.Proofs
set_option linter.unusedSimpArgs false
set_option linter.unusedVariables false
set_option maxHeartbeats 8000000
/-- What a log is whose file it is. -/
theorem pick_file {D : Dk} {n : Int} {L : Lg} (h : pickL D n L ≠ L) : (pickL D n L).file = n ∧ ∃ f g img k, fileOf D n = some f ∧ begins f.bs = some (g, img, k) ∧ pickL D n L = ⟨n, g, img, framesOf (f.bs.drop k), L.over⟩ := by
  unfold pickL at h ⊢
  cases hf : fileOf D n with
  | none => rw [hf] at h; exact (h rfl).elim
  | some f =>
    rw [hf] at h
    simp only at h ⊢
    cases hb : begins f.bs with
    | none => rw [hb] at h; exact (h rfl).elim
    | some x =>
      obtain ⟨g, img, k⟩ := x
      rw [hb] at h
      simp only at h ⊢
      split at h
      · exact (h rfl).elim
      · rename_i hg
        rw [if_neg hg]
        exact ⟨rfl, f, g, img, k, rfl, hb, rfl⟩
theorem find_file (D : Dk) : findL D = lg0 ∨ ∃ n f g img k, (n = 1 ∨ n = 2) ∧ fileOf D n = some f ∧ begins f.bs = some (g, img, k) ∧ findL D = ⟨n, g, img, framesOf (f.bs.drop k), false⟩ := by
  unfold findL
  by_cases h1 : pickL D 1 lg0 = lg0
  · rw [h1]
    by_cases h2 : pickL D 2 lg0 = lg0
    · exact .inl h2
    · obtain ⟨_, f, g, img, k, e1, e2, e3⟩ := pick_file h2
      exact .inr ⟨2, f, g, img, k, .inr rfl, e1, e2, e3⟩
  · obtain ⟨_, f, g, img, k, e1, e2, e3⟩ := pick_file h1
    by_cases h2 : pickL D 2 (pickL D 1 lg0) = pickL D 1 lg0
    · exact .inr ⟨1, f, g, img, k, .inl rfl, e1, e2, by rw [h2, e3]; rfl⟩
    · obtain ⟨_, f', g', img', k', e1', e2', e3'⟩ := pick_file h2
      exact .inr ⟨2, f', g', img', k', .inr rfl, e1', e2', by rw [e3', e3]; rfl⟩
theorem endOf_8 : ∀ {l : List (List UInt8)}, (∀ x ∈ l, 1 ≤ x.length) → 8 * l.length ≤ endOf l
  | [], _ => Nat.le_refl _
  | x :: l, h => by
    have h1 := h x (by simp)
    have h2 := endOf_8 (l := l) fun y hy => h y (List.mem_cons_of_mem _ hy)
    rw [List.length_cons]
    show _ ≤ (7 + x.length) + endOf l
    omega
theorem frames_few (b : List UInt8) : 8 * (framesOf b).length ≤ b.length := by
  have h1 := endOf_8 (l := framesOf b) fun x hx => (frames_small hx).1
  have h2 := (framesOf_drop _ b (Nat.le_refl _)).2
  rw [List.take_length] at h2
  omega
theorem find_lok (D : Dk) (ok : D.ok) : (findL D).ok := by
  rcases find_file D with h | ⟨n, f, g, img, k, _, hf, hb, h⟩
  · rw [h]
    exact ⟨by simp [lg0], by simp [lg0], by simp [lg0]⟩
  · rw [h]
    have hl := file_le ok hf
    have hw := begins_len hb
    have hi : img.length ≤ 60000 := by
      unfold begins at hb
      cases hx : firstOf f.bs with
      | none => rw [hx] at hb; cases hb
      | some x =>
        rw [hx] at hb
        simp only at hb
        split at hb
        · cases hb
        · cases hb
          have := (firstOf_some hx).2.2.2.1
          rw [List.length_drop]
          omega
    have hfw := frames_few (f.bs.drop k)
    rw [List.length_drop] at hfw
    exact ⟨by show img.length < _; omega, by show (framesOf _).length < _; omega, fun x hx => by
      have := (frames_small hx).2
      omega⟩
noncomputable def openD (D : Dk) : Dk := match fileOf D (findL D).file with
  | none => D
  | some f => if endOf (framesOf f.bs) < f.bs.length then (cutD D (findL D).file (endOf (framesOf f.bs) : Nat)).1 else D
theorem openD_ok {D : Dk} (ok : D.ok) : (openD D).ok := by
  unfold openD
  split
  · exact ok
  · split
    · exact cut_okn ok _ _
    · exact ok
section
variable {h0 h : Heap} {l : List HP} {d : Nat} {D : Dk}
theorem Open_ok (ok : D.ok) (hlo : D.lost = false) (hfu : D.fuse ≠ 0) (S : St h0 h (diskA d D :: l)) :
    CallsH Try.prog 46 [.pointer (some ⟨d, 0, none⟩)] h fun v h' =>
      (findL D = lg0 ∧ v = .tuple #[.pointer none, .int .i64 7] ∧ St h0 h' (diskA d D :: l)) ∨
      ((findL D).file ≠ 0 ∧ ∃ p, v = .tuple #[.pointer (some ⟨p, 0, none⟩), .int .i64 0] ∧ St h0 h' (logA p d (findL D) :: diskA d (openD D) :: l)) := by
  (refine enterK c_log_Open (Nat.le_of_ble_eq_true rfl) fun K hK => ?_; (try simp (maxSteps := 1000000) (disch := first | omega | assumption | exact Nat.le_of_ble_eq_true rfl) only [go_sem, ↓mwp_block, simprocAttr, ir_log_Open]))
  refine call_intro (find_ok ok hlo S) ?_
  clear S
  rintro _ h ⟨p, rfl, S⟩
  have hff := find_file D
  have hop : openD D = match fileOf D (findL D).file with
    | none => D
    | some f => if endOf (framesOf f.bs) < f.bs.length then (cutD D (findL D).file (endOf (framesOf f.bs) : Nat)).1 else D := rfl
  generalize findL D = L at *
  rcases hff with hL | ⟨n, f, g, img, k, hn, hf, hb, hL⟩
  · have S1 := S
    obtain ⟨im, rs, S1⟩ := logA_open.1 S1
    simp only [hL, lg0] at S1
    have F := S1.all
    simp only [all_cons, all_nil, says_cell, and_true] at F
    (try simp (maxSteps := 1000000) (disch := first | omega | assumption | exact Nat.le_of_ble_eq_true rfl) only [go_sem, ↓mwp_block, simprocAttr, F])
    exact hK _ _ (.inl ⟨hL, rfl, S.tl⟩)
  have hLf : L.file = n := by rw [hL]
  have hn0 : L.file ≠ 0 := by rw [hLf]; rcases hn with rfl | rfl <;> decide
  rw [hLf, hf] at hop
  simp only at hop
  have ht : thereE D n = 0 := by rw [there_at hlo (by rcases hn with rfl | rfl <;> decide) (by rcases hn with rfl | rfl <;> decide), hf]; rfl
  have hfl := file_le ok hf
  obtain ⟨im, rs, S1⟩ := logA_open.1 S
  rw [hLf] at S1 hn0 hK
  have F := S1.all
  simp only [all_cons, all_nil, says_cell, and_true] at F
  (try simp (maxSteps := 1000000) (disch := first | omega | assumption | exact Nat.le_of_ble_eq_true rfl) only [go_sem, ↓mwp_block, simprocAttr, F, hn0])
  refine call_intro (Read_ok n S.p1 ok) ?_
  clear S S1 F
  rintro _ h (⟨hx, _⟩ | ⟨_, s, f', hf', rfl, S⟩)
  · exact (hx ht).elim
  rw [hf] at hf'
  cases hf'
  obtain ⟨A, c, rfl⟩ := S.sl
  obtain ⟨_, hc1, hc2⟩ := S.cap
  (try simp (maxSteps := 1000000) (disch := first | omega | assumption | exact Nat.le_of_ble_eq_true rfl) only [go_sem, ↓mwp_block, simprocAttr])
  refine call_intro (Whole_ok S (fun h' S => S.arr bEnc_len) hc1 hc2 (by omega)) ?_
  clear S
  rintro _ h ⟨rfl, S⟩
  have hw := (framesOf_drop _ f.bs (Nat.le_refl _)).2
  rw [List.take_length] at hw
  have S := S.tl
  by_cases hlt : endOf (framesOf f.bs) < f.bs.length
  · rw [if_pos hlt] at hop
    have S1 := S.p1
    obtain ⟨im, rs, S1⟩ := logA_open.1 S1
    rw [hLf] at S1
    have F := S1.all
    simp only [all_cons, all_nil, says_cell, and_true] at F
    (try simp (maxSteps := 1000000) (disch := first | omega | assumption | exact Nat.le_of_ble_eq_true rfl) only [go_sem, ↓mwp_block, simprocAttr, F])
    refine call_intro (Cut_ok n (endOf (framesOf f.bs) : Nat) S ok) ?_
    clear S S1 F
    rintro _ h ⟨rfl, S⟩
    have he : (cutD D n (endOf (framesOf f.bs) : Nat)).2 = 0 := by
      rw [cutD, if_neg (by rw [ht]; simp), hf, if_neg (by simp; omega), if_neg hfu]
    rw [he]
    (try simp (maxSteps := 1000000) (disch := first | omega | assumption | exact Nat.le_of_ble_eq_true rfl) only [go_sem, ↓mwp_block, simprocAttr])
    exact hK _ _ (.inr ⟨hn0, p, rfl, by rw [hop]; exact S.p1⟩)
  · rw [if_neg hlt] at hop
    (try simp (maxSteps := 1000000) (disch := first | omega | assumption | exact Nat.le_of_ble_eq_true rfl) only [go_sem, ↓mwp_block, simprocAttr, hlt])
    exact hK _ _ (.inr ⟨hn0, p, rfl, by rw [hop]; exact S.p1⟩)
end
end Go.Proofs.Ytnjjdpeglkiifaa.MX

/- A script of the log's, as an argument; whether its acts are few. -/
namespace Go.Proofs.Ytnjjdpeglkiifaa.MX
open Go Go.Proofs
set_option linter.unusedSimpArgs false
set_option linter.unusedVariables false
set_option maxHeartbeats 4000000
structure Op4 where
  k : Int
  n : Int
  A : Option Addr
  c : Nat
  ys : List UInt8
  K : K8
def Op4.enc (y : Op4) : List Value := [.int .u8 y.k, .int .i64 y.n, .slice y.A y.ys.length y.c, .int .i64 y.K.k0, .int .i64 y.K.k1, .int .i64 y.K.k2, .int .i64 y.K.k3, .int .i64 y.K.k4, .int .i64 y.K.k5, .int .i64 y.K.k6, .int .i64 y.K.k7]
structure Op4.ok (h : Heap) (y : Op4) : Prop where
  k : 0 ≤ y.k ∧ y.k < 256
  n : I64 y.n
  arr : Arr bEnc 1 h y.A y.ys
  len : y.ys.length ≤ 140737488355328
  ks : y.K.ok
theorem op4_of {h : Heap} {d : Nat} {cs : List Value} (hg : Good Try.prog h d 91 cs) : ∃ y : Op4, cs = y.enc ∧ y.ok h := by
  have hl : leaves Try.prog 3 91 = some [.int .u8, .int .i64, .slice 5, .int .i64, .int .i64, .int .i64, .int .i64, .int .i64, .int .i64, .int .i64, .int .i64] := by kernel_rfl
  obtain ⟨k, _, rfl, w0, a, _, rfl, w1, v, _, rfl, g, k0, _, rfl, v0, k1, _, rfl, v1, k2, _, rfl, v2, k3, _, rfl, v3, k4, _, rfl, v4, k5, _, rfl, v5, k6, _, rfl, v6, k7, _, rfl, v7, rfl⟩ := leaves_of 3 hg hl
  obtain ⟨A, c, xs, rfl, ha, h1, h2, h3, _⟩ := GoodS.arrZ (enc := U8.enc) (sz := 1) (by kernel_rfl) (by decide) g u8_of
  have hm : maxLen = 9223372036854775807 := rfl
  have hr : reachBytes = 140737488351232 := rfl
  have hb : Program.bytesOf Try.prog 5 = 1 := by kernel_rfl
  rw [hb, hr] at h3
  refine ⟨⟨k, a, A, c, xs.map U8.n, ⟨k0, k1, k2, k3, k4, k5, k6, k7⟩⟩, by simp [Op4.enc], ⟨wf_u8 w0, wf_i64 w1, arrU8 ha, by simp; omega, ?_⟩⟩
  intro k hk
  simp only [K8.l, List.mem_cons, List.not_mem_nil, or_false] at hk
  rcases hk with rfl | rfl | rfl | rfl | rfl | rfl | rfl | rfl
  · exact wf_i64 v0
  · exact wf_i64 v1
  · exact wf_i64 v2
  · exact wf_i64 v3
  · exact wf_i64 v4
  · exact wf_i64 v5
  · exact wf_i64 v6
  · exact wf_i64 v7
theorem few04_ok {A : Option Addr} {c : Nat} {xs : List Op4} {h : Heap} (ha : Arr Op4.enc 11 h A xs) (hl : xs.length < 9223372036854775808) (hz : ∀ y ∈ xs, y.ys.length ≤ 140737488355328) :
    CallsH Try.prog 54 [.slice A xs.length c, .int .i64 40] h fun v h' => ∃ b, v = .bool b ∧ h' = h ∧ (b = true → ∀ y ∈ xs, y.ys.length ≤ 300000) := by
  (refine enterK c_recouplaw04_few (Nat.le_of_ble_eq_true rfl) fun K hK => ?_; (try simp (maxSteps := 1000000) (disch := first | omega | assumption | exact Nat.le_of_ble_eq_true rfl) only [go_sem, ↓mwp_block, simprocAttr, ir_recouplaw04_few]))
  refine loop_intro (fun ρ h' => h' = h ∧ ρ 0 = .slice A xs.length c ∧ ρ 1 = .int .i64 40 ∧ ρ 8 = .int .i64 xs.length ∧ ∃ (i : Nat) (n : Nat), ρ 9 = .int .i64 i ∧ i ≤ xs.length ∧ ρ 5 = .int .i64 n ∧ n ≤ 300000 ∧ ∀ y ∈ xs.take i, y.ys.length ≤ 300000) (fun ρ _ => xs.length - (iv (ρ 9)).toNat) ?_ ?_
  · (try simp (maxSteps := 1000000) (disch := first | omega | assumption | exact Nat.le_of_ble_eq_true rfl) only [go_sem, ↓mwp_block, simprocAttr])
    exact ⟨0, 0, rfl, by omega, rfl, by omega, by simp⟩
  rintro ρ h' J hJ ⟨rfl, e0, e1, e8, i, n, e9, hi, e5, hn, hpre⟩
  (try simp (maxSteps := 1000000) (disch := first | omega | assumption | exact Nat.le_of_ble_eq_true rfl) only [go_sem, ↓mwp_block, simprocAttr, e8, e9])
  refine cond_dec (fun hg => ?_) (fun hg => ?_)
  case refine_2 =>
    (try simp (maxSteps := 1000000) (disch := first | omega | assumption | exact Nat.le_of_ble_eq_true rfl) only [go_sem, ↓mwp_block, simprocAttr])
    have : i = xs.length := by omega
    subst this
    rw [List.take_length] at hpre
    exact hK _ _ ⟨_, rfl, rfl, fun _ => hpre⟩
  have hi' : i < xs.length := by omega
  obtain ⟨b, off, rfl, hr⟩ := ha.at hi'
  have hzi := hz _ (List.getElem_mem hi')
  have htk := List.take_succ_eq_append_getElem hi'
  generalize xs[i] = y at hr hzi htk
  have w1 : IntKind.i64.wrap ((n : Int) + (y.ys.length : Nat)) = ((n + y.ys.length : Nat) : Int) := wrap_i64 (by omega) (by omega)
  (try simp (maxSteps := 1000000) (disch := first | omega | assumption | exact Nat.le_of_ble_eq_true rfl) only [go_sem, ↓mwp_block, simprocAttr, e0, e1, e5, e9, rd1_part (k := 2) hr, Op4.enc, w1])
  by_cases g1 : (40 : Int) ≤ (i : Int)
  · (try simp (maxSteps := 1000000) (disch := first | omega | assumption | exact Nat.le_of_ble_eq_true rfl) only [go_sem, ↓mwp_block, simprocAttr, g1])
    exact hK _ _ ⟨_, rfl, rfl, fun hx => by cases hx⟩
  by_cases g2 : (300000 : Int) < ((n + y.ys.length : Nat) : Int)
  · (try simp (maxSteps := 1000000) (disch := first | omega | assumption | exact Nat.le_of_ble_eq_true rfl) only [go_sem, ↓mwp_block, simprocAttr, g1, g2])
    exact hK _ _ ⟨_, rfl, rfl, fun hx => by cases hx⟩
  (try simp (maxSteps := 1000000) (disch := first | omega | assumption | exact Nat.le_of_ble_eq_true rfl) only [go_sem, ↓mwp_block, simprocAttr, g1, g2, e9])
  refine hJ _ _ ?_ ?_
  · (try simp (maxSteps := 1000000) (disch := first | omega | assumption | exact Nat.le_of_ble_eq_true rfl) only [go_sem, ↓mwp_block, simprocAttr, e0, e1, e8, e9])
    refine ⟨i + 1, _, rfl, by omega, rfl, by omega, ?_⟩
    rw [htk]
    intro z hz
    rcases List.mem_append.1 hz with hz | hz
    · exact hpre z hz
    · simp at hz; subst hz; omega
  · (try simp (maxSteps := 1000000) (disch := first | omega | assumption | exact Nat.le_of_ble_eq_true rfl) only [go_sem, ↓mwp_block, simprocAttr, e9])
    omega
end Go.Proofs.Ytnjjdpeglkiifaa.MX
