/- The law FrameTells. -/
import Derived.Test.YtackopkhelochaaFr10
namespace Go.Proofs.Ytackopkhelochaa.MX
open Go Go.Proofs
set_option linter.unusedSimpArgs false
set_option linter.unusedVariables false
set_option maxRecDepth 100000

theorem tkN_all {m : Int} {l : List (List UInt8)} (h : (l.length : Int) ≤ m) : tkN m l = l := by
  unfold tkN
  split
  · rfl
  · exact List.take_of_length_le (by omega)
theorem frames_small {b x : List UInt8} (h : x ∈ framesOf b) : 1 ≤ x.length ∧ x.length ≤ 60000 := by
  obtain ⟨i, hi, rfl⟩ := List.getElem_of_mem h
  have h1 := (framesOf_drop i b (by omega)).1
  have h2 := framesOf_eq (b.drop (endOf ((framesOf b).take i)))
  rw [h1, List.drop_eq_getElem_cons hi] at h2
  cases hf : firstOf (b.drop (endOf ((framesOf b).take i))) with
  | none => rw [hf] at h2; cases h2
  | some x =>
    rw [hf] at h2
    simp only [List.cons.injEq] at h2
    rw [h2.1]
    exact ⟨(firstOf_some hf).2.2.1, (firstOf_some hf).2.2.2.1⟩
theorem small_of {zs : List Bz} {xs : List (List UInt8)} {n : Nat} (hz : zs.map Bz.ys = xs) (hx : ∀ x ∈ xs, x.length < n) : ∀ z ∈ zs, z.ys.length < n := fun z h => hx _ (by rw [← hz]; exact List.mem_map_of_mem h)
theorem places_at {xs : List (List UInt8)} {i : Nat} (hi : i < (placesOf xs).length) : (placesOf xs)[i] = endOf (xs.take (i + 1)) := by
  simp [placesOf]

theorem rd_arr {α : Type} {enc : α → List Value} {h : Heap} {b o i : Nat} {zs : List α} {v : Value} (ha : Arr enc 1 h (some ⟨b, o, none⟩) zs) (hi : i < zs.length) (he : enc zs[i] = [v]) : rd1 h (.pointer (some ⟨b, o + i, none⟩)) = some v := by
  obtain ⟨b', o', e, hr⟩ := ha.at hi
  cases e
  have := rd1_part (k := 0) hr (by omega)
  rw [he, Nat.mul_one, Nat.add_zero] at this
  exact this
set_option maxHeartbeats 4000000 in
theorem FrameTells_ok' (A : Option Addr) (c : Nat) (b : List UInt8) (h0 : Heap) (ha : Arr bEnc 1 h0 A b) (hc : b.length ≤ c) (hc2 : c ≤ maxLen) :
    CallsH Try.prog 8 [.slice A b.length c] h0 fun v h' => v = .bool true ∧ Fr h0 h' [] := by
  have S := St.nil h0
  have hm : maxLen = 9223372036854775807 := rfl
  (refine enterK c_recouplaw03_FrameTells (Nat.le_of_ble_eq_true rfl) fun K hK => ?_; (try simp (maxSteps := 1000000) (disch := first | omega | assumption | exact Nat.le_of_ble_eq_true rfl) only [go_sem, ↓mwp_block, simprocAttr, ir_recouplaw03_FrameTells]))
  refine call_intro (awake03_ok _) ?_
  rintro _ h ⟨rfl, hf⟩
  have S := S.frame hf
  by_cases hl : 70000 < b.length
  · (try simp (maxSteps := 1000000) (disch := first | omega | assumption | exact Nat.le_of_ble_eq_true rfl) only [go_sem, ↓mwp_block, simprocAttr])
    refine call_intro (awake03_ok _) ?_
    rintro _ h ⟨rfl, hf⟩
    (try simp (maxSteps := 1000000) (disch := first | omega | assumption | exact Nat.le_of_ble_eq_true rfl) only [go_sem, ↓mwp_block, simprocAttr])
    exact hK _ _ ⟨rfl, (S.frame hf).fr⟩
  have hfl := frames_lt b
  have ha' : ∀ {l : List HP} h', St h0 h' l → Arr bEnc 1 h' A b := fun h' S => ha.fr S.fr (by simp)
  (try simp (maxSteps := 1000000) (disch := first | omega | assumption | exact Nat.le_of_ble_eq_true rfl) only [go_sem, ↓mwp_block, simprocAttr])
  refine call_intro (told_ok 1073741824 ⟨by decide, by decide⟩ S ha' hc (by omega) (by omega)) ?_
  rintro _ h ⟨s1, s2, rfl, S⟩
  rw [tkN_all (by omega)] at S
  (try simp (maxSteps := 1000000) (disch := first | omega | assumption | exact Nat.le_of_ble_eq_true rfl) only [go_sem, ↓mwp_block, simprocAttr])
  refine call_intro (RefFrames_ok S ha' hc (by omega) (by omega)) ?_
  rintro _ h ⟨s3, s4, rfl, S⟩
  (try simp (maxSteps := 1000000) (disch := first | omega | assumption | exact Nat.le_of_ble_eq_true rfl) only [go_sem, ↓mwp_block, simprocAttr])
  refine call_intro (First_ok S ha' hc (by omega) (by omega)) ?_
  intro r h hr
  obtain ⟨x, n, e, rfl, S, hcase⟩ : ∃ x n e, r = .tuple #[x, n, e] ∧ St h0 h (lsA s3 (framesOf b) :: ownA iEnc 1 3 s4 (placesOf (framesOf b)) :: lsA s1 (framesOf b) :: ownA iEnc 1 3 s2 (placesOf (framesOf b)) :: (ownA bEnc 1 5 x ((firstOf b).getD [])) :: []) ∧
      ((firstOf b = none ∧ x = .slice none 0 0 ∧ n = .int .i64 0 ∧ e = .int .i64 3) ∨ ∃ y, firstOf b = some y ∧ n = .int .i64 ((7 + y.length : Nat) : Int) ∧ e = .int .i64 0) := by
    cases hf : firstOf b with
    | none =>
      rw [hf] at hr
      obtain ⟨rfl, S⟩ := hr
      refine ⟨_, _, _, rfl, ?_, .inl ⟨rfl, rfl, rfl, rfl⟩⟩
      have S : St h0 h (ownA bEnc 1 5 (.slice none 0 0) ((none : Option (List UInt8)).getD []) :: _) := S.nilS
      (refine St.perm S ?_; repeat (with_reducible first | exact List.Perm.refl _ | refine pm0 ?_ | refine pm1 ?_ | refine pm2 ?_ | refine pm3 ?_ | refine pm4 ?_ | refine pm5 ?_ | refine pm6 ?_ | refine pm7 ?_ | refine pm8 ?_ | refine pm9 ?_ | refine pm10 ?_ | refine pm11 ?_ | refine pm12 ?_))
    | some y =>
      rw [hf] at hr
      obtain ⟨x, rfl, S⟩ := hr
      refine ⟨_, _, _, rfl, ?_, .inr ⟨y, rfl, rfl, rfl⟩⟩
      have S : St h0 h (ownA bEnc 1 5 x ((some y).getD []) :: _) := S
      (refine St.perm S ?_; repeat (with_reducible first | exact List.Perm.refl _ | refine pm0 ?_ | refine pm1 ?_ | refine pm2 ?_ | refine pm3 ?_ | refine pm4 ?_ | refine pm5 ?_ | refine pm6 ?_ | refine pm7 ?_ | refine pm8 ?_ | refine pm9 ?_ | refine pm10 ?_ | refine pm11 ?_ | refine pm12 ?_))
  clear hr
  obtain ⟨A1, c1, rfl⟩ := lsA_sl S.p2
  obtain ⟨A3, c3, rfl⟩ := lsA_sl S
  obtain ⟨A2, c2, rfl⟩ := S.p3.sl
  obtain ⟨A4, c4, rfl⟩ := S.p1.sl
  obtain ⟨zs1, hz1, hn1, r1⟩ := rl_of S.p2
  obtain ⟨zs3, hz3, hn3, r3⟩ := rl_of S
  have hsm : ∀ x ∈ framesOf b, x.length < 1000000000 := fun x hx => by have := (frames_small hx).2; omega
  have hL := Lists_ok (c := c1) (d := c3) r1 r3 (small_of hz1 hsm) (small_of hz3 hsm) (by omega) (by omega)
  rw [hz1, hz3, ← hn1, ← hn3] at hL
  (try simp (maxSteps := 1000000) (disch := first | omega | assumption | exact Nat.le_of_ble_eq_true rfl) only [go_sem, ↓mwp_block, simprocAttr])
  refine call_intro hL ?_
  rintro _ h ⟨rfl, rfl⟩
  (try simp (maxSteps := 1000000) (disch := first | omega | assumption | exact Nat.le_of_ble_eq_true rfl) only [go_sem, ↓mwp_block, simprocAttr])
  have a2 := S.p3.arr iEnc_len
  have a4 := S.p1.arr iEnc_len
  have hpl := placesOf_len (framesOf b)
  refine loop_intro (fun ρ h' => h' = h ∧ ρ 0 = .slice A b.length c ∧ ρ 4 = .slice A2 (placesOf (framesOf b)).length c2 ∧ ρ 5 = .slice A3 (framesOf b).length c3 ∧ ρ 6 = .slice A4 (placesOf (framesOf b)).length c4 ∧ ρ 7 = x ∧ ρ 8 = n ∧ ρ 9 = e ∧ ρ 47 = .int .i64 (placesOf (framesOf b)).length ∧ ∃ i : Nat, ρ 48 = .int .i64 i ∧ i ≤ (placesOf (framesOf b)).length) (fun ρ _ => (placesOf (framesOf b)).length - (iv (ρ 48)).toNat) ?_ ?_
  · (try simp (maxSteps := 1000000) (disch := first | omega | assumption | exact Nat.le_of_ble_eq_true rfl) only [go_sem, ↓mwp_block, simprocAttr])
    exact ⟨0, rfl, by omega⟩
  · rintro ρ h' J hJ ⟨rfl, e0, e4, e5, e6, e7, e8, e9, e47, i, e48, hi⟩
    (try simp (maxSteps := 1000000) (disch := first | omega | assumption | exact Nat.le_of_ble_eq_true rfl) only [go_sem, ↓mwp_block, simprocAttr, e47, e48])
    refine cond_dec (fun hg => ?_) (fun hg => ?_)
    · have hi1 : i < (placesOf (framesOf b)).length := by omega
      obtain ⟨b1, o1, rfl, q1⟩ := a2.at hi1
      obtain ⟨b2, o2, rfl, q2⟩ := a4.at hi1
      have p1 := rd1_part (k := 0) q1
      have p2 := rd1_part (k := 0) q2
      simp only [iEnc, Nat.add_zero, List.getElem?_cons_zero, Nat.mul_one] at p1 p2
      (try simp (maxSteps := 1000000) (disch := first | omega | assumption | exact Nat.le_of_ble_eq_true rfl) only [go_sem, ↓mwp_block, simprocAttr, e4, e6, e48])
      refine draw_eq ?_
      (try simp (maxSteps := 1000000) (disch := first | omega | assumption | exact Nat.le_of_ble_eq_true rfl) only [go_sem, ↓mwp_block, simprocAttr, e4, e6, e48, p1, p2, Nat.mul_one])
      refine hJ _ _ ?_ ?_
      · (try simp (maxSteps := 1000000) (disch := first | omega | assumption | exact Nat.le_of_ble_eq_true rfl) only [go_sem, ↓mwp_block, simprocAttr, e0, e4, e5, e6, e7, e8, e9, e47, e48])
        exact ⟨i + 1, rfl, by omega⟩
      · (try simp (maxSteps := 1000000) (disch := first | omega | assumption | exact Nat.le_of_ble_eq_true rfl) only [go_sem, ↓mwp_block, simprocAttr, e48])
        omega
    · clear hJ
      have hfe := framesOf_eq b
      rcases hcase with ⟨hf, rfl, rfl, rfl⟩ | ⟨y, hf, rfl, rfl⟩
      · rw [hf] at hfe
        simp only at hfe
        have hl0 : (framesOf b).length = 0 := by rw [hfe]; rfl
        have he0 : endOf (framesOf b) = 0 := by rw [hfe]; rfl
        (try simp (maxSteps := 1000000) (disch := first | omega | assumption | exact Nat.le_of_ble_eq_true rfl) only [go_sem, ↓mwp_block, simprocAttr, e5, e0, hl0])
        refine call_intro (Whole_ok S ha' hc (by omega) (by omega)) ?_
        rintro _ h ⟨rfl, S⟩
        rw [he0]
        (try simp (maxSteps := 1000000) (disch := first | omega | assumption | exact Nat.le_of_ble_eq_true rfl) only [go_sem, ↓mwp_block, simprocAttr, e7, e8, e9])
        exact hK _ _ ⟨rfl, S.fr⟩
      · rw [hf] at hfe
        simp only at hfe
        have hl1 : 0 < (framesOf b).length := by rw [hfe]; simp
        obtain ⟨zs, hzs, So⟩ := lsA_open.1 S
        have hzl : zs.length = (framesOf b).length := by rw [← hzs, List.length_map]
        obtain ⟨b3, o3, rfl, _⟩ := (So.arr bz_len).at (show 0 < zs.length by omega)
        obtain ⟨b4, o4, rfl, _⟩ := a4.at (show 0 < (placesOf (framesOf b)).length by omega)
        have y3 := (row_says So.tl _ (List.getElem_mem (show 0 < zs.length by omega)))
        have hz0 : (zs[0]'(by omega)).ys = y := by
          have := congrArg (·[0]?) hzs
          simp only [hfe, List.getElem?_map, List.getElem?_eq_getElem (show 0 < zs.length by omega), Option.map_some, List.getElem?_cons_zero] at this
          exact Option.some.inj this
        have So := So.perm (List.Perm.cons _ List.perm_middle)
        have hp4 : (placesOf (framesOf b))[(placesOf (framesOf b)).length - 1]'(by omega) = endOf (framesOf b) := by
          rw [places_at, List.take_of_length_le (by omega)]
        have hp0 : (placesOf (framesOf b))[0]'(by omega) = 7 + y.length := by
          rw [places_at, hfe]
          simp [endOf]
        have r3 : ∀ {h' : Heap} {l : List HP}, St h0 h' (ownA Bz.enc 1 22 (.slice (some ⟨b3, o3, none⟩) (framesOf b).length c3) zs :: l) → rd1 h' (.pointer (some ⟨b3, o3, none⟩)) = some (.slice (zs[0]'(by omega)).A (zs[0]'(by omega)).ys.length (zs[0]'(by omega)).c) := fun s => rd_arr (i := 0) (s.arr bz_len) (by omega) rfl
        have r4 : ∀ {h' : Heap} {l : List HP}, St h0 h' (ownA iEnc 1 3 (.slice (some ⟨b4, o4, none⟩) (placesOf (framesOf b)).length c4) (placesOf (framesOf b)) :: l) →
            rd1 h' (.pointer (some ⟨b4, o4 + (((placesOf (framesOf b)).length : Int) - 1).toNat, none⟩)) = some (.int .i64 (endOf (framesOf b) : Nat)) ∧ rd1 h' (.pointer (some ⟨b4, o4, none⟩)) = some (.int .i64 (7 + y.length : Nat)) := fun s => by
          refine ⟨?_, ?_⟩
          · rw [show (((placesOf (framesOf b)).length : Int) - 1).toNat = (placesOf (framesOf b)).length - 1 by omega]
            exact rd_arr (s.arr iEnc_len) (by omega) (by rw [hp4]; rfl)
          · exact rd_arr (i := 0) (s.arr iEnc_len) (by omega) (by rw [hp0]; rfl)
        (try simp (maxSteps := 1000000) (disch := first | omega | assumption | exact Nat.le_of_ble_eq_true rfl) only [go_sem, ↓mwp_block, simprocAttr, e5, e0, e6])
        refine draw_st So ?_
        have rx3 : ∀ K t, readT (fun h' => St h0 h' _) (fun h' => rd1 h' (.pointer (some ⟨b3, o3, none⟩))) K t = bindT (some (.slice (zs[0]'(by omega)).A (zs[0]'(by omega)).ys.length (zs[0]'(by omega)).c)) K ⟨⟩ := fun K t => reads_of So (fun h' s => r3 s)
        have rx4 : ∀ K t, readT (fun h' => St h0 h' _) (fun h' => rd1 h' (.pointer (some ⟨b4, o4 + (((placesOf (framesOf b)).length : Int) - 1).toNat, none⟩))) K t = bindT (some (.int .i64 (endOf (framesOf b) : Nat))) K ⟨⟩ := fun K t => reads_of So (fun h' s => (r4 s.p1).1)
        have rx0 : ∀ K t, readT (fun h' => St h0 h' _) (fun h' => rd1 h' (.pointer (some ⟨b4, o4, none⟩))) K t = bindT (some (.int .i64 (7 + y.length : Nat))) K ⟨⟩ := fun K t => reads_of So (fun h' s => (r4 s.p1).2)
        (try simp (maxSteps := 1000000) (disch := first | omega | assumption | exact Nat.le_of_ble_eq_true rfl) only [go_sem, ↓mwp_block, simprocAttr, e0, e6, rx4, Nat.mul_one])
        refine call_intro (Whole_ok So ha' hc (by omega) (by omega)) ?_
        rintro _ h2 ⟨rfl, S2⟩
        refine chk_st S2 ?_
        (try simp (maxSteps := 1000000) (disch := first | omega | assumption | exact Nat.le_of_ble_eq_true rfl) only [go_sem, ↓mwp_block, simprocAttr, e5, e6, e7, e8, e9, rx0, rx3, Nat.mul_one, Nat.zero_mul, Nat.add_zero])
        have hx := (St.dropL (ps := [_, _] ++ zs.map bRow) S2).tl.tl
        rw [hf, Option.getD_some] at hx
        obtain ⟨Bx, cx, rfl⟩ := hx.sl
        obtain ⟨_, _, ho⟩ := row_says S2.tl.tl _ (List.getElem_mem (show 0 < zs.length by omega))
        have hya := (ho.arr bEnc_len).1
        have hys := (firstOf_some hf).2.2.2.1
        have hcmp := Bytes_ok (c := cx) (d := (zs[0]'(by omega)).c) (hx.arr bEnc_len) hya (by omega) (by rw [hz0]; omega)
        refine call_intro hcmp ?_
        rintro _ h3 ⟨rfl, rfl⟩
        refine chk_st S2 ?_
        rw [hz0]
        (try simp (maxSteps := 1000000) (disch := first | omega | assumption | exact Nat.le_of_ble_eq_true rfl) only [go_sem, ↓mwp_block, simprocAttr])
        exact hK _ _ ⟨rfl, S2.fr⟩
theorem FrameTells_ok (A : Option Addr) (c : Nat) (xs : List U8) (h : Heap) (ha : Arr U8.enc 1 h A xs) (h1 : xs.length ≤ c) (h2 : c ≤ maxLen) (hok : ∀ x ∈ xs, x.ok) :
    CallsH Try.prog 8 [.slice A xs.length c] h fun v h' => v = .bool true ∧ Fr h h' [] := by
  have := FrameTells_ok' A c (xs.map U8.n) h (arrU8 ha) (by simpa using h1) h2
  rwa [List.length_map] at this
end Go.Proofs.Ytackopkhelochaa.MX
