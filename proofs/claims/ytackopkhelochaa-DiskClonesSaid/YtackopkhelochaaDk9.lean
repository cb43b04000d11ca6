/- The law DiskSafe. -/
import Derived.Test.YtackopkhelochaaDk8
import Derived.Test.YtackopkhelochaaFr2
import Derived.WideShapes
namespace Go.Proofs.Ytackopkhelochaa.MX
open Go Go.Proofs
set_option linter.unusedSimpArgs false
set_option linter.unusedVariables false

theorem okWide_arr {P : Program} {w : World} {r : Reach} {base t n e : Nat} {v : Value} (ht : P.underlying t = some (.array n e)) (h : Value.okWide P w r base t v) : ∃ cs, v = .agg cs ∧ cs.size = P.cellsOf t := by
  simp only [Value.okWide, ht] at h
  obtain ⟨cs, h1, h2, _⟩ := h
  exact ⟨cs, h1, h2⟩
/-- Bytes in a slice of slices. -/
structure BSl where
  A : Option Addr
  c : Nat
  ys : List UInt8
def BSl.enc (x : BSl) : List Value := [.slice x.A x.ys.length x.c]
def BSl.ok (h : Heap) (x : BSl) : Prop := Arr bEnc 1 h x.A x.ys ∧ x.ys.length ≤ x.c ∧ x.c ≤ maxLen
theorem bsl_of {h : Heap} {d : Nat} {cs : List Value} (hg : Good Try.prog h d 22 cs) : ∃ x : BSl, cs = x.enc ∧ x.ok h := by
  have hl : leaves Try.prog 2 22 = some [.slice 5] := by kernel_rfl
  obtain ⟨v, _, rfl, g, rfl⟩ := leaves_of 2 hg hl
  obtain ⟨A, c, xs, rfl, ha, h1, h2, _⟩ := GoodS.arr (enc := U8.enc) (sz := 1) (by kernel_rfl) (by decide) g u8_of
  exact ⟨⟨A, c, xs.map U8.n⟩, by simp [BSl.enc], arrU8 ha, by simpa using h1, h2⟩
structure K8 where
  k0 : Int
  k1 : Int
  k2 : Int
  k3 : Int
  k4 : Int
  k5 : Int
  k6 : Int
  k7 : Int
def K8.l (x : K8) : List Int := [x.k0, x.k1, x.k2, x.k3, x.k4, x.k5, x.k6, x.k7]
def K8.enc (x : K8) : List Value := k8 x.l
def K8.ok (x : K8) : Prop := ∀ k ∈ x.l, I64 k
theorem k8_of {h : Heap} {d : Nat} {cs : List Value} (hg : Good Try.prog h d 46 cs) : ∃ x : K8, cs = x.enc ∧ x.ok := by
  have hl : leaves Try.prog 3 46 = some [.int .i64, .int .i64, .int .i64, .int .i64, .int .i64, .int .i64, .int .i64, .int .i64] := by kernel_rfl
  obtain ⟨k0, _, rfl, w0, k1, _, rfl, w1, k2, _, rfl, w2, k3, _, rfl, w3, k4, _, rfl, w4, k5, _, rfl, w5, k6, _, rfl, w6, k7, _, rfl, w7, rfl⟩ := leaves_of 3 hg hl
  refine ⟨⟨k0, k1, k2, k3, k4, k5, k6, k7⟩, rfl, ?_⟩
  intro k hk
  simp only [K8.l, List.mem_cons, List.not_mem_nil, or_false] at hk
  rcases hk with rfl | rfl | rfl | rfl | rfl | rfl | rfl | rfl
  · exact wf_i64 w0
  · exact wf_i64 w1
  · exact wf_i64 w2
  · exact wf_i64 w3
  · exact wf_i64 w4
  · exact wf_i64 w5
  · exact wf_i64 w6
  · exact wf_i64 w7

theorem used_rest : ∀ (ks : List Int) (fs : List (Option DF)), used (List.zipWith restS ks fs) ≤ used fs
  | [], fs => by simp [used]
  | _ :: _, [] => by simp [used]
  | k :: ks, o :: fs => by
    have ih := used_rest ks fs
    have h1 : szF (restS k o) ≤ szF o := by
      cases o with
      | none => exact Nat.le_refl _
      | some f => simp [restS, restF, szF]; omega
    simp only [used, List.zipWith_cons_cons, List.map_cons, List.sum_cons] at ih ⊢
    omega
theorem rest_ok {D : Dk} (ok : D.ok) {ks : List Int} (hk : ks.length = 8) : (restartD D ks).ok := by
  have h8 := ok.len
  refine ⟨by simp [restartD, hk, h8], ok.cap, ?_, by simp [restartD], ?_⟩
  · have := used_rest ks D.fs
    have := ok.room
    show (used (List.zipWith restS ks D.fs) : Int) ≤ D.cap
    omega
  · intro g hg
    obtain ⟨i, hi, he⟩ := List.getElem_of_mem hg
    have hi' : i < (List.zipWith restS ks D.fs).length := hi
    have hi2 : i < 8 := by simpa [hk, h8] using hi'
    have he' : (List.zipWith restS ks D.fs)[i]'hi' = some g := he
    rw [List.getElem_zipWith] at he'
    cases hf : D.fs[i]'(by omega) with
    | none => rw [hf] at he'; cases he'
    | some f =>
      rw [hf] at he'
      have := Option.some.inj he'
      subst this
      have hs := ok.safe f (by rw [← hf]; exact List.getElem_mem _)
      simp only [restF, List.length_take]
      omega
theorem inv_fuse {b : List UInt8} {D : Dk} (hi : Inv b D) {m : Int} (h0 : 0 ≤ m) (h1 : m < 9223372036854775808) : Inv b (fuseD D m).1 := by
  obtain ⟨ok, f, hf, hp, hs⟩ := hi
  unfold fuseD
  split
  · exact ⟨ok, f, hf, hp, hs⟩
  · split
    · exact ⟨ok, f, hf, hp, hs⟩
    · exact ⟨⟨ok.len, ok.cap, ok.room, ⟨by simp only; omega, h1⟩, ok.safe⟩, f, hf, hp, hs⟩
theorem first_ok (b : List UInt8) (hb : b.length ≤ 5000) : (appendD ⟨1048576, List.replicate 8 none, -1, false⟩ 1 b).2 = 0 ∧ (syncD (appendD ⟨1048576, List.replicate 8 none, -1, false⟩ 1 b).1 1).2 = 0 ∧ Inv b (syncD (appendD ⟨1048576, List.replicate 8 none, -1, false⟩ 1 b).1 1).1 := by
  have e1 : appendD ⟨1048576, List.replicate 8 none, -1, false⟩ 1 b = (⟨1048576, [none, some ⟨b, 0⟩, none, none, none, none, none, none], -1, false⟩, 0) := by
    unfold appendD
    rw [if_neg (by decide), if_neg (by simp [used, szF]; omega), if_neg (by show ¬ ((-1 : Int) = 0); decide)]
    rfl
  have e2 : syncD ⟨1048576, [none, some ⟨b, 0⟩, none, none, none, none, none, none], -1, false⟩ 1 = (⟨1048576, [none, some ⟨b, b.length⟩, none, none, none, none, none, none], -1, false⟩, 0) := by
    unfold syncD
    rw [if_neg (by simp [thereE, askE, fileOf]), if_neg (by show ¬ ((-1 : Int) = 0); decide)]
    rfl
  rw [e1]
  simp only
  rw [e2]
  refine ⟨by simp, by simp, ⟨rfl, by simp, by simp [used, szF]; omega, by simp, ?_⟩, ⟨b, b.length⟩, by simp [fileOf], by simp, Nat.le_refl _⟩
  intro f hf
  simp at hf
  subst hf
  exact Nat.le_refl _

set_option maxHeartbeats 4000000 in
theorem DiskSafe_ok' (A : Option Addr) (c : Nat) (b : List UInt8) (A1 : Option Addr) (c1 : Nat) (more : List BSl) (fu : Int) (kp : K8) (h0 : Heap) (ha : Arr bEnc 1 h0 A b) (hc : b.length ≤ c) (ham : Arr BSl.enc 1 h0 A1 more) (hok : ∀ x ∈ more, x.ok h0) (hfu : I64 fu) (hkp : kp.ok) :
    CallsH Try.prog 6 [.slice A b.length c, .slice A1 more.length c1, .int .i64 fu, .agg kp.enc.toArray] h0 fun v h' => v = .bool true ∧ Fr h0 h' [] := by
  have S := St.nil h0
  have hk8 : kp.l.length = 8 := rfl
  (refine enterK c_recouplaw01_DiskSafe (Nat.le_of_ble_eq_true rfl) fun K hK => ?_; (try simp (maxSteps := 1000000) (disch := first | omega | assumption | exact Nat.le_of_ble_eq_true rfl) only [go_sem, ↓mwp_block, simprocAttr, ir_recouplaw01_DiskSafe]))
  (refine st_alloc S ?_; clear S; intro bx h S; (try simp only [splice_cons, splice_nil, List.set_cons_zero, List.set_cons_succ, Nat.zero_add, Nat.reduceAdd, List.cons_append, List.nil_append] at S); ((try clear F); have F := S.all; (try simp only [all_cons, all_nil, says_cell, and_true] at F)))
  (try simp (maxSteps := 1000000) (disch := first | omega | assumption | exact Nat.le_of_ble_eq_true rfl) only [go_sem, ↓mwp_block, simprocAttr])
  refine call_intro (awake01_ok _) ?_
  rintro _ h ⟨rfl, hf⟩
  have S := S.frame hf
  (try simp (maxSteps := 1000000) (disch := first | omega | assumption | exact Nat.le_of_ble_eq_true rfl) only [go_sem, ↓mwp_block, simprocAttr])
  by_cases hb : b.length ≤ 5000
  case neg =>
    (try simp (maxSteps := 1000000) (disch := first | omega | assumption | exact Nat.le_of_ble_eq_true rfl) only [go_sem, ↓mwp_block, simprocAttr])
    refine call_intro (awake01_ok _) ?_
    rintro _ h ⟨rfl, hf⟩
    (try simp (maxSteps := 1000000) (disch := first | omega | assumption | exact Nat.le_of_ble_eq_true rfl) only [go_sem, ↓mwp_block, simprocAttr])
    exact hK _ _ ⟨rfl, (S.frame hf).fr⟩
  by_cases hm : more.length ≤ 20
  case neg =>
    (try simp (maxSteps := 1000000) (disch := first | omega | assumption | exact Nat.le_of_ble_eq_true rfl) only [go_sem, ↓mwp_block, simprocAttr])
    refine call_intro (awake01_ok _) ?_
    rintro _ h ⟨rfl, hf⟩
    (try simp (maxSteps := 1000000) (disch := first | omega | assumption | exact Nat.le_of_ble_eq_true rfl) only [go_sem, ↓mwp_block, simprocAttr])
    exact hK _ _ ⟨rfl, (S.frame hf).fr⟩
  (try simp (maxSteps := 1000000) (disch := first | omega | assumption | exact Nat.le_of_ble_eq_true rfl) only [go_sem, ↓mwp_block, simprocAttr])
  refine call_intro (New_ok 1048576 S) ?_
  rintro _ h (⟨_, _, d, rfl, S⟩ | ⟨hn, _⟩)
  case inr => exact absurd ⟨by decide, by decide⟩ hn
  obtain ⟨f1, f2, f3⟩ := first_ok b hb
  have okd : (⟨1048576, List.replicate 8 none, -1, false⟩ : Dk).ok := ⟨rfl, by decide, by decide, by decide, by simp⟩
  (try simp (maxSteps := 1000000) (disch := first | omega | assumption | exact Nat.le_of_ble_eq_true rfl) only [go_sem, ↓mwp_block, simprocAttr])
  refine call_intro (Append_ok 1 S okd (fun h' S => ha.fr S.fr (by simp)) hc (by omega)) ?_
  rintro _ h ⟨rfl, S⟩
  rw [f1]
  (try simp (maxSteps := 1000000) (disch := first | omega | assumption | exact Nat.le_of_ble_eq_true rfl) only [go_sem, ↓mwp_block, simprocAttr])
  refine call_intro (Sync_ok 1 S (append_ok1 okd b)) ?_
  rintro _ h ⟨rfl, S⟩
  rw [f2]
  generalize (syncD (appendD ⟨1048576, List.replicate 8 none, -1, false⟩ 1 b).1 1).1 = D at f3 S
  obtain ⟨m, hm0, hm1, hme⟩ : ∃ m : Int, 0 ≤ m ∧ m < 9223372036854775808 ∧ (if 0 > fu then 0 else fu).tmod 50 = m := by
    obtain ⟨hf1, hf2⟩ := hfu
    have h1 : 0 ≤ (if 0 > fu then 0 else fu) := by split <;> omega
    have h2 := Int.tmod_lt_of_pos (if 0 > fu then 0 else fu) (show (0 : Int) < 50 by decide)
    exact ⟨_, Int.tmod_nonneg 50 h1, by omega, rfl⟩
  (try simp (maxSteps := 1000000) (disch := first | omega | assumption | exact Nat.le_of_ble_eq_true rfl) only [go_sem, ↓mwp_block, simprocAttr, hme])
  refine call_intro (Fuse_ok m S) ?_
  rintro _ h ⟨rfl, S⟩
  have f4 := inv_fuse f3 hm0 hm1
  generalize (fuseD D m).1 = D at f4 S
  (try simp (maxSteps := 1000000) (disch := first | omega | assumption | exact Nat.le_of_ble_eq_true rfl) only [go_sem, ↓mwp_block, simprocAttr])
  refine loop_intro (fun ρ h' => ρ 0 = .slice A b.length c ∧ ρ 1 = .slice A1 more.length c1 ∧ ρ 7 = .pointer (some ⟨bx, 0, none⟩) ∧ ρ 9 = .pointer (some ⟨d, 0, none⟩) ∧ ρ 47 = .int .i64 more.length ∧ ∃ (i : Nat) (D : Dk), ρ 48 = .int .i64 i ∧ i ≤ more.length ∧ Inv b D ∧ St h0 h' [diskA d D, cellA bx kp.enc 46]) (fun ρ _ => more.length - (iv (ρ 48)).toNat) ?_ ?_
  · (try simp (maxSteps := 1000000) (disch := first | omega | assumption | exact Nat.le_of_ble_eq_true rfl) only [go_sem, ↓mwp_block, simprocAttr])
    exact ⟨0, D, rfl, Nat.zero_le _, f4, S⟩
  · clear S f3 f4 f1 f2 F
    rintro ρ h J hJ ⟨e0, e1, e7, e9, e47, i, D, e48, hi, hI, S⟩
    (try simp (maxSteps := 1000000) (disch := first | omega | assumption | exact Nat.le_of_ble_eq_true rfl) only [go_sem, ↓mwp_block, simprocAttr, e47, e48])
    refine cond_dec (fun hg => ?_) (fun hg => ?_)
    · have hlt : i < more.length := by omega
      obtain ⟨bm, om, rfl, hr⟩ := (ham.fr S.fr (by simp)).at hlt
      have hx := hok more[i] (List.getElem_mem hlt)
      have r1 := rd1_part0 hr (by omega)
      simp only [BSl.enc, List.getElem?_cons_zero] at r1
      generalize more[i] = x at hx r1
      obtain ⟨hx1, hx2, hx3⟩ := hx
      have hw2 : ((i : Int)).tmod 2 = ((i % 2 : Nat) : Int) := by rw [Int.tmod_eq_emod_of_nonneg (by omega)]; omega
      (try simp (maxSteps := 1000000) (disch := first | omega | assumption | exact Nat.le_of_ble_eq_true rfl) only [go_sem, ↓mwp_block, simprocAttr, e0, e1, e48, r1])
      refine cond_dec (fun h5 => ?_) (fun h5 => ?_)
      · (try simp (maxSteps := 1000000) (disch := first | omega | assumption | exact Nat.le_of_ble_eq_true rfl) only [go_sem, ↓mwp_block, simprocAttr])
        exact hK _ _ ⟨rfl, S.fr⟩
      · (try simp (maxSteps := 1000000) (disch := first | omega | assumption | exact Nat.le_of_ble_eq_true rfl) only [go_sem, ↓mwp_block, simprocAttr, e1, e9, r1])
        refine call_intro (Append_ok 1 S hI.1 (fun h' S => hx1.fr S.fr (by simp)) hx2 (by omega)) ?_
        rintro _ h ⟨rfl, S⟩
        have hI2 := inv_append hI x.ys
        generalize (appendD D 1 x.ys).1 = D2 at hI2 S
        by_cases hodd : i % 2 = 1
        · have hw3 : ((i : Int)).tmod 2 = 1 := by omega
          (try simp (maxSteps := 1000000) (disch := first | omega | assumption | exact Nat.le_of_ble_eq_true rfl) only [go_sem, ↓mwp_block, simprocAttr, e9, e48, hw3])
          refine call_intro (Sync_ok 1 S hI2.1) ?_
          rintro _ h ⟨rfl, S⟩
          (try simp (maxSteps := 1000000) (disch := first | omega | assumption | exact Nat.le_of_ble_eq_true rfl) only [go_sem, ↓mwp_block, simprocAttr, e48])
          refine hJ _ _ ?_ ?_
          · (try simp (maxSteps := 1000000) (disch := first | omega | assumption | exact Nat.le_of_ble_eq_true rfl) only [go_sem, ↓mwp_block, simprocAttr, e0, e1, e7, e9, e47, e48])
            exact ⟨i + 1, _, rfl, by omega, inv_sync hI2, S⟩
          · (try simp (maxSteps := 1000000) (disch := first | omega | assumption | exact Nat.le_of_ble_eq_true rfl) only [go_sem, ↓mwp_block, simprocAttr, e48])
            omega
        · have hw3 : ((i : Int)).tmod 2 = 0 := by omega
          (try simp (maxSteps := 1000000) (disch := first | omega | assumption | exact Nat.le_of_ble_eq_true rfl) only [go_sem, ↓mwp_block, simprocAttr, e9, e48, hw3])
          refine hJ _ _ ?_ ?_
          · (try simp (maxSteps := 1000000) (disch := first | omega | assumption | exact Nat.le_of_ble_eq_true rfl) only [go_sem, ↓mwp_block, simprocAttr, e0, e1, e7, e9, e47, e48])
            exact ⟨i + 1, D2, rfl, by omega, hI2, S⟩
          · (try simp (maxSteps := 1000000) (disch := first | omega | assumption | exact Nat.le_of_ble_eq_true rfl) only [go_sem, ↓mwp_block, simprocAttr, e48])
            omega
    · (try simp (maxSteps := 1000000) (disch := first | omega | assumption | exact Nat.le_of_ble_eq_true rfl) only [go_sem, ↓mwp_block, simprocAttr, e9])
      refine call_intro (Safe_ok 1 S) ?_
      rintro _ _ ⟨rfl, rfl⟩
      obtain ⟨ok, f, hf, hp, hs⟩ := hI
      have hsl := safe_of ok hf
      have F := S.p1.all
      simp only [all_cons, says_cell] at F
      have hke : kp.enc.length = 8 := rfl
      have htk : (kp.enc.drop 0).take 8 = kp.enc := rfl
      rw [hf]
      (try simp (maxSteps := 1000000) (disch := first | omega | assumption | exact Nat.le_of_ble_eq_true rfl) only [go_sem, ↓mwp_block, simprocAttr, e7, e9, F, htk])
      refine call_intro (Restart_ok kp.l hk8 hkp S ok) ?_
      intro r h S
      have ok2 := rest_ok ok hk8
      have hf1 : fileOf (restartD D kp.l) 1 = some (restF kp.k1 f) := by
        have h8 := ok.len
        have h1 : D.fs[1]? = some (some f) := by
          rw [List.getElem?_eq_getElem (by omega), ← fileOf_1 h8, hf]
        have h2 : (List.zipWith restS kp.l D.fs)[1]? = some (some (restF kp.k1 f)) := by
          rw [List.getElem?_zipWith, h1]
          rfl
        show (if (0 : Int) ≤ 1 ∧ (1 : Int) < 8 then (List.zipWith restS kp.l D.fs).getD 1 none else none) = _
        rw [if_pos (by decide), List.getD_eq_getElem?_getD, h2]
        rfl
      have hth : thereE (restartD D kp.l) 1 = 0 := by
        have h1 : askE (restartD D kp.l) 1 = 0 := by simp [askE, restartD]
        unfold thereE
        rw [h1, hf1]
        simp
      (try simp (maxSteps := 1000000) (disch := first | omega | assumption | exact Nat.le_of_ble_eq_true rfl) only [go_sem, ↓mwp_block, simprocAttr, e9])
      refine call_intro (Read_ok 1 S ok2) ?_
      rintro _ h (⟨hne, _⟩ | ⟨_, s, g, hg1, rfl, S⟩)
      · exact absurd hth hne
      · rw [hf1] at hg1
        cases hg1
        obtain ⟨B, e, rfl⟩ := S.sl
        have hle := (S.own.arr bEnc_len).2.2
        have hn : (restF kp.k1 f).bs.length = (restF kp.k1 f).safe := by simp only [restF, List.length_take]; omega
        have hn2 : f.safe ≤ (restF kp.k1 f).safe := by simp only [restF]; omega
        have hpre : (restF kp.k1 f).bs.take b.length = b := by
          simp only [restF]
          rw [List.take_take, Nat.min_eq_left (by omega), hp]
        have hbl2 : (restF kp.k1 f).bs.length ≤ f.bs.length := by simp only [restF, List.length_take]; omega
        have hbig : f.bs.length < 10000000 := by
          have h8 := ok.len
          have hu := used_get (fs := D.fs) (k := 1) (by omega)
          have hro := ok.room
          have hcp := ok.cap
          rw [fileOf_1 h8] at hf
          rw [hf] at hu
          simp only [szF] at hu
          omega
        have htl : ((restF kp.k1 f).bs.take b.length).length = b.length := by rw [hpre]
        (try simp (maxSteps := 1000000) (disch := first | omega | assumption | exact Nat.le_of_ble_eq_true rfl) only [go_sem, ↓mwp_block, simprocAttr, e0, e9, safeF])
        have hcmp := Bytes_ok (c := e) (d := c) (A := B) (B := A) (arr_take (S.arr bEnc_len) b.length) (ha.fr S.fr (by simp)) (by rw [htl]; omega) (by omega)
        rw [htl] at hcmp
        refine call_intro hcmp ?_
        rintro _ _ ⟨rfl, rfl⟩
        (try simp (maxSteps := 1000000) (disch := first | omega | assumption | exact Nat.le_of_ble_eq_true rfl) only [go_sem, ↓mwp_block, simprocAttr, e9])
        refine call_intro (Safe_ok 1 S.p1) ?_
        rintro _ _ ⟨rfl, rfl⟩
        rw [hf1]
        (try simp (maxSteps := 1000000) (disch := first | omega | assumption | exact Nat.le_of_ble_eq_true rfl) only [go_sem, ↓mwp_block, simprocAttr, safeF])
        exact hK _ _ ⟨by simp [hn], S.fr⟩
theorem DiskSafe_ok (A : Option Addr) (c : Nat) (xs : List U8) (A1 : Option Addr) (c1 : Nat) (more : List BSl) (fu : Int) (kp : K8) (h : Heap) (ha : Arr U8.enc 1 h A xs) (h1 : xs.length ≤ c) (_ : c ≤ maxLen) (_ : ∀ x ∈ xs, x.ok)
    (ham : Arr BSl.enc 1 h A1 more) (_ : more.length ≤ c1) (_ : c1 ≤ maxLen) (hok : ∀ x ∈ more, x.ok h) (hfu : I64 fu) (hkp : kp.ok) :
    CallsH Try.prog 6 [.slice A xs.length c, .slice A1 more.length c1, .int .i64 fu, .agg kp.enc.toArray] h fun v h' => v = .bool true ∧ Fr h h' [] := by
  have := DiskSafe_ok' A c (xs.map U8.n) A1 c1 more fu kp h (arrU8 ha) (by simpa using h1) ham hok hfu hkp
  rwa [List.length_map] at this
end Go.Proofs.Ytackopkhelochaa.MX
