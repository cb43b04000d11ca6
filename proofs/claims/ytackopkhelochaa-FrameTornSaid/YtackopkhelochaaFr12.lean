/- The law FrameBack. -/
import Derived.Test.YtackopkhelochaaFr11
namespace Go.Proofs.Ytackopkhelochaa.MX
open Go Go.Proofs
set_option linter.unusedSimpArgs false
set_option linter.unusedVariables false
set_option maxRecDepth 100000

/-- A slice of byte slices, as an argument. -/
structure Bz.ok (h : Heap) (z : Bz) : Prop where
  arr : Arr bEnc 1 h z.A z.ys
  le : z.ys.length ≤ z.c
  lt : z.c < 9223372036854775808
theorem bz_of {h : Heap} {d : Nat} {cs : List Value} (hg : Good Try.prog h d 22 cs) : ∃ z : Bz, cs = z.enc ∧ z.ok h := by
  have hl : leaves Try.prog 2 22 = some [.slice 5] := by kernel_rfl
  obtain ⟨v, _, rfl, g, rfl⟩ := leaves_of 2 hg hl
  obtain ⟨A, c, xs, rfl, ha, h1, h2, _⟩ := GoodS.arr (enc := U8.enc) (sz := 1) (by kernel_rfl) (by decide) g u8_of
  have hm : maxLen = 9223372036854775807 := rfl
  exact ⟨⟨A, c, xs.map U8.n⟩, by simp [Bz.enc], arrU8 ha, by simpa using h1, by show c < _; omega⟩
theorem rl_arg {h : Heap} {A : Option Addr} {zs : List Bz} (ha : Arr Bz.enc 1 h A zs) (hok : ∀ z ∈ zs, z.ok h) : RL h A zs := ⟨ha, fun z hz => (hok z hz).arr⟩

theorem flat_snoc (xs : List Bz) {i : Nat} (hi : i < xs.length) : ((xs.take (i + 1)).map Bz.ys).flatMap frameOf = ((xs.take i).map Bz.ys).flatMap frameOf ++ frameOf (xs[i]).ys := by
  rw [List.take_succ_eq_append_getElem hi, List.map_append, List.flatMap_append]
  simp

set_option maxHeartbeats 4000000 in
theorem FrameBack_ok' (A : Option Addr) (c : Nat) (xs : List Bz) (A2 : Option Addr) (c2 : Nat) (b : List UInt8) (cut most : Int) (h0 : Heap) (ha : Arr Bz.enc 1 h0 A xs) (hc : xs.length ≤ c) (hc2 : c ≤ maxLen) (hok : ∀ z ∈ xs, z.ok h0)
    (hb : Arr bEnc 1 h0 A2 b) (hbc : b.length ≤ c2) (hbc2 : c2 ≤ maxLen) (hcut : 0 ≤ cut ∧ cut < 65536) (hmost : 0 ≤ most ∧ most < 256) :
    CallsH Try.prog 9 [.slice A xs.length c, .slice A2 b.length c2, .int .u16 cut, .int .u8 most] h0 fun v h' => v = .bool true ∧ Fr h0 h' [] := by
  have S := St.nil h0
  have hm : maxLen = 9223372036854775807 := rfl
  obtain ⟨hcut1, hcut2⟩ := hcut
  obtain ⟨hmost1, hmost2⟩ := hmost
  (refine enterK c_recouplaw03_FrameBack (Nat.le_of_ble_eq_true rfl) fun K hK => ?_; (try simp (maxSteps := 1000000) (disch := first | omega | assumption | exact Nat.le_of_ble_eq_true rfl) only [go_sem, ↓mwp_block, simprocAttr, ir_recouplaw03_FrameBack]))
  refine call_intro (awake03_ok _) ?_
  rintro _ h ⟨rfl, hf⟩
  have S := S.frame hf
  by_cases g1 : 20 < xs.length
  · (try simp (maxSteps := 1000000) (disch := first | omega | assumption | exact Nat.le_of_ble_eq_true rfl) only [go_sem, ↓mwp_block, simprocAttr])
    refine call_intro (awake03_ok _) ?_
    rintro _ h ⟨rfl, hf⟩
    (try simp (maxSteps := 1000000) (disch := first | omega | assumption | exact Nat.le_of_ble_eq_true rfl) only [go_sem, ↓mwp_block, simprocAttr])
    exact hK _ _ ⟨rfl, (S.frame hf).fr⟩
  by_cases g2 : 5000 < b.length
  · (try simp (maxSteps := 1000000) (disch := first | omega | assumption | exact Nat.le_of_ble_eq_true rfl) only [go_sem, ↓mwp_block, simprocAttr])
    refine call_intro (awake03_ok _) ?_
    rintro _ h ⟨rfl, hf⟩
    (try simp (maxSteps := 1000000) (disch := first | omega | assumption | exact Nat.le_of_ble_eq_true rfl) only [go_sem, ↓mwp_block, simprocAttr])
    exact hK _ _ ⟨rfl, (S.frame hf).fr⟩
  by_cases g3 : b.length < 1
  · (try simp (maxSteps := 1000000) (disch := first | omega | assumption | exact Nat.le_of_ble_eq_true rfl) only [go_sem, ↓mwp_block, simprocAttr])
    refine call_intro (awake03_ok _) ?_
    rintro _ h ⟨rfl, hf⟩
    (try simp (maxSteps := 1000000) (disch := first | omega | assumption | exact Nat.le_of_ble_eq_true rfl) only [go_sem, ↓mwp_block, simprocAttr])
    exact hK _ _ ⟨rfl, (S.frame hf).fr⟩
  (try simp (maxSteps := 1000000) (disch := first | omega | assumption | exact Nat.le_of_ble_eq_true rfl) only [go_sem, ↓mwp_block, simprocAttr])
  have S : St h0 h (ownA bEnc 1 5 (.slice none 0 0) [] :: []) := S.nilS
  refine loop_intro (fun ρ h' => ρ 0 = .slice A xs.length c ∧ ρ 1 = .slice A2 b.length c2 ∧ ρ 2 = .int .u16 cut ∧ ρ 3 = .int .u8 most ∧ ρ 39 = .int .i64 xs.length ∧ ∃ (i : Nat) (s : Value) (L : List HP), ρ 40 = .int .i64 i ∧ i ≤ xs.length ∧ ρ 9 = s ∧ (∀ z ∈ xs.take i, 1 ≤ z.ys.length ∧ z.ys.length ≤ 60000) ∧ (((xs.take i).map Bz.ys).flatMap frameOf).length ≤ i * 60007 ∧
    St h0 h' (ownA bEnc 1 5 s (((xs.take i).map Bz.ys).flatMap frameOf) :: L)) (fun ρ _ => xs.length - (iv (ρ 40)).toNat) ?_ ?_
  · (try simp (maxSteps := 1000000) (disch := first | omega | assumption | exact Nat.le_of_ble_eq_true rfl) only [go_sem, ↓mwp_block, simprocAttr])
    exact ⟨0, _, _, rfl, by omega, rfl, by simp, by simp, S⟩
  · clear S
    rintro ρ h J hJ ⟨e0, e1, e2, e3, e39, i, s, L, e40, hi, e9, hsm, hln, S⟩
    (try simp (maxSteps := 1000000) (disch := first | omega | assumption | exact Nat.le_of_ble_eq_true rfl) only [go_sem, ↓mwp_block, simprocAttr, e39, e40])
    refine cond_dec (fun hg => ?_) (fun hg => ?_)
    · have hi1 : i < xs.length := by omega
      obtain ⟨bk, off, rfl, hr⟩ := (ha.fr S.fr (by simp)).at hi1
      have hz := hok _ (List.getElem_mem hi1)
      have hp : ∀ {h' : Heap} {l : List HP}, St h0 h' l → rd1 h' (.pointer (some ⟨bk, off + i, none⟩)) = some (.slice (xs[i]).A (xs[i]).ys.length (xs[i]).c) := fun s => rd_arr (ha.fr s.fr (by simp)) hi1 rfl
      have hsn := flat_snoc xs hi1
      have htk := List.take_succ_eq_append_getElem hi1
      generalize xs[i] = z at hr hz hsn htk hp
      obtain ⟨hza, hzl, hzc⟩ := hz
      have p := rd1_part (k := 0) hr
      simp only [Bz.enc, Nat.add_zero, List.getElem?_cons_zero, Nat.mul_one] at p
      (try simp (maxSteps := 1000000) (disch := first | omega | assumption | exact Nat.le_of_ble_eq_true rfl) only [go_sem, ↓mwp_block, simprocAttr, e0, e40, p, Nat.mul_one])
      refine call_intro (Frame_ok (c := z.c) S (fun h' s => hza.fr s.fr (by simp)) (by omega)) ?_
      rintro _ h (⟨hbad, rfl, S⟩ | ⟨hy1, hy2, v, rfl, S⟩)
      · have p := hp S
        by_cases hb1 : z.ys.length < 1
        · (try simp (maxSteps := 1000000) (disch := first | omega | assumption | exact Nat.le_of_ble_eq_true rfl) only [go_sem, ↓mwp_block, simprocAttr, e0, e40, p, Nat.mul_one])
          exact hK _ _ ⟨rfl, S.fr⟩
        · (try simp (maxSteps := 1000000) (disch := first | omega | assumption | exact Nat.le_of_ble_eq_true rfl) only [go_sem, ↓mwp_block, simprocAttr, e0, e40, p, Nat.mul_one])
          exact hK _ _ ⟨rfl, S.fr⟩
      · obtain ⟨B, e, rfl⟩ := S.sl
        (try simp (maxSteps := 1000000) (disch := first | omega | assumption | exact Nat.le_of_ble_eq_true rfl) only [go_sem, ↓mwp_block, simprocAttr, e9])
        refine st_append (bytes := 1) (ys := frameOf z.ys) bEnc_len (by omega) bEnc_plain rfl S.p1 rfl (src_arr bEnc_len (S.arr bEnc_len) rfl) (by rw [frameOf_len]; omega) (by rw [frameOf_len]; omega) ?_
        clear S
        intro v' h S
        rw [← hsn] at S
        (try simp (maxSteps := 1000000) (disch := first | omega | assumption | exact Nat.le_of_ble_eq_true rfl) only [go_sem, ↓mwp_block, simprocAttr, e40])
        refine hJ _ _ ?_ ?_
        · (try simp (maxSteps := 1000000) (disch := first | omega | assumption | exact Nat.le_of_ble_eq_true rfl) only [go_sem, ↓mwp_block, simprocAttr, e0, e1, e2, e3, e39, e40])
          refine ⟨i + 1, _, _, rfl, by omega, rfl, ?_, ?_, S⟩
          · intro y hy
            rw [htk] at hy
            rcases List.mem_append.1 hy with hy | hy
            · exact hsm y hy
            · simp at hy
              rw [hy]
              exact ⟨hy1, hy2⟩
          · rw [hsn, List.length_append, frameOf_len]
            omega
        · (try simp (maxSteps := 1000000) (disch := first | omega | assumption | exact Nat.le_of_ble_eq_true rfl) only [go_sem, ↓mwp_block, simprocAttr, e40])
          omega
    · clear hJ
      obtain rfl : i = xs.length := by omega
      rw [List.take_length] at S hsm hln
      obtain ⟨B, e, rfl⟩ := S.sl
      (try simp (maxSteps := 1000000) (disch := first | omega | assumption | exact Nat.le_of_ble_eq_true rfl) only [go_sem, ↓mwp_block, simprocAttr, e9, e1])
      refine call_intro (Frame_ok (c := c2) S (fun h' s => hb.fr s.fr (by simp)) (by omega)) ?_
      rintro _ h (⟨hbad, _⟩ | ⟨hy1, hy2, v, rfl, S⟩)
      · exact absurd hbad (by omega)
      obtain ⟨B2, e2', rfl⟩ := S.sl
      have hfl := frameOf_len b
      have hcp := S.cap
      obtain ⟨k, hk, hkl⟩ : ∃ k : Nat, cut.tmod ((frameOf b).length : Int) = k ∧ k < (frameOf b).length := by
        refine ⟨(cut.tmod ((frameOf b).length : Int)).toNat, ?_, ?_⟩
        · rw [Int.toNat_of_nonneg (Int.tmod_nonneg _ hcut1)]
        · have := Int.tmod_lt_of_pos cut (show (0 : Int) < (frameOf b).length by omega)
          have := Int.tmod_nonneg ((frameOf b).length : Int) hcut1
          omega
      (try simp (maxSteps := 1000000) (disch := first | omega | assumption | exact Nat.le_of_ble_eq_true rfl) only [go_sem, ↓mwp_block, simprocAttr, e2, e9, hk])
      refine st_append (bytes := 1) (ys := (frameOf b).take k) bEnc_len (by omega) bEnc_plain rfl S.p1 (by simp [srcLen]; omega) (src_arr bEnc_len (arr_take (S.arr bEnc_len) k) (by simp; omega)) (by rw [List.length_take]; omega) (by rw [List.length_take]; omega) ?_
      clear S
      intro v' h S
      have hfr : framesOf ((xs.map Bz.ys).flatMap frameOf ++ (frameOf b).take k) = xs.map Bz.ys := by
        rw [framesOf_cat _ (fun x hx => ?_), framesOf_part hy1 hy2 (by omega), List.append_nil]
        obtain ⟨z, hz, rfl⟩ := List.mem_map.1 hx
        exact hsm z hz
      have hel := endOf_flat (xs.map Bz.ys)
      have hal : ((xs.map Bz.ys).flatMap frameOf ++ (frameOf b).take k).length < 10000000 := by rw [List.length_append, List.length_take]; omega
      generalize (xs.map Bz.ys).flatMap frameOf ++ (frameOf b).take k = all at *
      obtain ⟨B3, e3', rfl⟩ := S.sl
      have hcp3 := S.cap
      (try simp (maxSteps := 1000000) (disch := first | omega | assumption | exact Nat.le_of_ble_eq_true rfl) only [go_sem, ↓mwp_block, simprocAttr])
      refine call_intro (told_ok 1073741824 ⟨by decide, by decide⟩ S (fun h' s => s.arr bEnc_len) hcp3.2.1 hcp3.2.2 hal) ?_
      clear S
      rintro _ h ⟨s1, s2, rfl, S⟩
      rw [hfr, tkN_all (by simp; omega)] at S
      (try simp (maxSteps := 1000000) (disch := first | omega | assumption | exact Nat.le_of_ble_eq_true rfl) only [go_sem, ↓mwp_block, simprocAttr, e3])
      refine call_intro (told_ok most ⟨by omega, by omega⟩ S (fun h' s => s.p2.arr bEnc_len) hcp3.2.1 hcp3.2.2 hal) ?_
      clear S
      rintro _ h ⟨s3, s4, rfl, S⟩
      rw [hfr] at S
      obtain ⟨A1, c1, rfl⟩ := lsA_sl S.p2
      obtain ⟨A3, c3, rfl⟩ := lsA_sl S
      obtain ⟨zs1, hz1, hn1, r1⟩ := rl_of S.p2
      have rA : RL h A xs := (rl_arg ha hok).fr S.fr
      have hbig : ∀ x ∈ xs.map Bz.ys, x.length < 1000000000 := fun x hx => by
        obtain ⟨z, hz, rfl⟩ := List.mem_map.1 hx
        have := (hsm z hz).2
        omega
      have hL := Lists_ok (c := c1) (d := c) r1 rA (small_of hz1 hbig) (small_of rfl hbig) (by rw [← hn1]; simp; omega) (by omega)
      rw [hz1, ← hn1] at hL
      (try simp (maxSteps := 1000000) (disch := first | omega | assumption | exact Nat.le_of_ble_eq_true rfl) only [go_sem, ↓mwp_block, simprocAttr, e0])
      refine call_intro hL ?_
      rintro _ h ⟨rfl, rfl⟩
      (try simp (maxSteps := 1000000) (disch := first | omega | assumption | exact Nat.le_of_ble_eq_true rfl) only [go_sem, ↓mwp_block, simprocAttr])
      refine call_intro (Whole_ok S (fun h' s => s.p4.arr bEnc_len) hcp3.2.1 hcp3.2.2 hal) ?_
      clear S r1 hL
      rintro _ h ⟨rfl, S⟩
      rw [hfr, hel]
      obtain ⟨m, hm', hml⟩ : ∃ m : Nat, (if most < (xs.length : Int) then most else (xs.length : Int)) = m ∧ m = min most.toNat xs.length := by
        refine ⟨min most.toNat xs.length, ?_, rfl⟩
        split <;> omega
      (try simp (maxSteps := 1000000) (disch := first | omega | assumption | exact Nat.le_of_ble_eq_true rfl) only [go_sem, ↓mwp_block, simprocAttr, e0, e3, hm'])
      obtain ⟨zs3, hz3, hn3, r3⟩ := rl_of S
      have hmx : m ≤ xs.length := by omega
      have htn : tkN most (xs.map Bz.ys) = (xs.take m).map Bz.ys := by
        unfold tkN
        rw [if_neg (by omega), ← List.map_take]
        congr 1
        rw [List.take_eq_take_iff]
        omega
      have hxl : (xs.take m).length = m := by rw [List.length_take]; omega
      have hL := Lists_ok (c := c3) (d := c) r3 ((rl_arg ha hok).fr S.fr |>.take m) (small_of hz3 (fun x hx => hbig x (by rw [htn] at hx; exact (List.map_subset _ (List.take_subset _ _)) hx))) (small_of rfl (fun x hx => hbig x ((List.map_subset _ (List.take_subset _ _)) hx))) (by rw [← hn3, htn, List.length_map]; omega) (by omega)
      rw [hz3, ← hn3, ← htn, hxl] at hL
      refine call_intro hL ?_
      rintro _ h ⟨rfl, rfl⟩
      (try simp (maxSteps := 1000000) (disch := first | omega | assumption | exact Nat.le_of_ble_eq_true rfl) only [go_sem, ↓mwp_block, simprocAttr])
      exact hK _ _ ⟨rfl, S.fr⟩
theorem FrameBack_ok (A : Option Addr) (c : Nat) (xs : List Bz) (A2 : Option Addr) (c2 : Nat) (bs : List U8) (cut most : Int) (h : Heap) (ha : Arr Bz.enc 1 h A xs) (hc : xs.length ≤ c) (hc2 : c ≤ maxLen) (hok : ∀ z ∈ xs, z.ok h)
    (hb : Arr U8.enc 1 h A2 bs) (hbc : bs.length ≤ c2) (hbc2 : c2 ≤ maxLen) (_ : ∀ x ∈ bs, x.ok) (hcut : 0 ≤ cut ∧ cut < 65536) (hmost : 0 ≤ most ∧ most < 256) :
    CallsH Try.prog 9 [.slice A xs.length c, .slice A2 bs.length c2, .int .u16 cut, .int .u8 most] h fun v h' => v = .bool true ∧ Fr h h' [] := by
  have := FrameBack_ok' A c xs A2 c2 (bs.map U8.n) cut most h ha hc hc2 hok (arrU8 hb) (by simpa using hbc) hbc2 hcut hmost
  rwa [List.length_map] at this
end Go.Proofs.Ytackopkhelochaa.MX
