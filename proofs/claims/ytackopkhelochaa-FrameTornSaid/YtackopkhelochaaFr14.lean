/- The law FrameTorn. -/
import Derived.Test.YtackopkhelochaaFr12
import Derived.Test.YtackopkhelochaaFr13
namespace Go.Proofs.Ytackopkhelochaa.MX
open Go Go.Proofs
set_option linter.unusedSimpArgs false
set_option linter.unusedVariables false
set_option maxRecDepth 100000

theorem bxor8 {x : UInt8} {b : Int} (h0 : 0 ≤ b) (h1 : b < 256) : binV .xor (.int .u8 (x.toNat : Int)) (.int .u8 b) = some (.int .u8 (((x ^^^ B8 b : UInt8).toNat : Nat) : Int)) := by
  have h := bin_xor (k := .u8) (a := (x.toNat : Int)) (b := b)
  rw [h]
  congr 2
  have hb : b = ((B8 b).toNat : Int) := by rw [B8_toNat]; omega
  have e1 : BitVec.ofInt IntKind.u8.bits (x.toNat : Int) = BitVec.ofNat 8 x.toNat := rfl
  have e2 : BitVec.ofInt IntKind.u8.bits b = BitVec.ofNat 8 (B8 b).toNat := by
    conv => lhs; rw [hb]
    rfl
  rw [e1, e2]
  show IntKind.u8.wrap (((BitVec.ofNat 8 x.toNat ^^^ BitVec.ofNat 8 (B8 b).toNat : BitVec 8)).toNat : Int) = _
  rw [BitVec.toNat_xor, BitVec.toNat_ofNat, BitVec.toNat_ofNat, UInt8.toNat_xor, Nat.mod_eq_of_lt x.toNat_lt, Nat.mod_eq_of_lt (B8 b).toNat_lt]
  have h1 : x.toNat ^^^ (B8 b).toNat < 2 ^ 8 := Nat.xor_lt_two_pow x.toNat_lt (B8 b).toNat_lt
  exact wrap_u8 (by omega) (by omega)
set_option maxHeartbeats 4000000 in
theorem FrameTorn_ok (A : Option Addr) (c : Nat) (xs : List Bz) (at' by' : Int) (h0 : Heap) (ha : Arr Bz.enc 1 h0 A xs) (hc : xs.length ≤ c) (hc2 : c ≤ maxLen) (hok : ∀ z ∈ xs, z.ok h0)
    (hat : 0 ≤ at' ∧ at' < 65536) (hby : 0 ≤ by' ∧ by' < 256) :
    CallsH Try.prog 7 [.slice A xs.length c, .int .u16 at', .int .u8 by'] h0 fun v h' => v = .bool true ∧ Fr h0 h' [] := by
  have S := St.nil h0
  have hm : maxLen = 9223372036854775807 := rfl
  obtain ⟨hat1, hat2⟩ := hat
  obtain ⟨hby1, hby2⟩ := hby
  (refine enterK c_recouplaw03_FrameTorn (Nat.le_of_ble_eq_true rfl) fun K hK => ?_; (try simp (maxSteps := 1000000) (disch := first | omega | assumption | exact Nat.le_of_ble_eq_true rfl) only [go_sem, ↓mwp_block, simprocAttr, ir_recouplaw03_FrameTorn]))
  refine call_intro (awake03_ok _) ?_
  rintro _ h ⟨rfl, hf⟩
  have S := S.frame hf
  by_cases g1 : 10 < xs.length
  · (try simp (maxSteps := 1000000) (disch := first | omega | assumption | exact Nat.le_of_ble_eq_true rfl) only [go_sem, ↓mwp_block, simprocAttr])
    refine call_intro (awake03_ok _) ?_
    rintro _ h ⟨rfl, hf⟩
    (try simp (maxSteps := 1000000) (disch := first | omega | assumption | exact Nat.le_of_ble_eq_true rfl) only [go_sem, ↓mwp_block, simprocAttr])
    exact hK _ _ ⟨rfl, (S.frame hf).fr⟩
  by_cases g2 : by' = 0
  · (try simp (maxSteps := 1000000) (disch := first | omega | assumption | exact Nat.le_of_ble_eq_true rfl) only [go_sem, ↓mwp_block, simprocAttr])
    refine call_intro (awake03_ok _) ?_
    rintro _ h ⟨rfl, hf⟩
    (try simp (maxSteps := 1000000) (disch := first | omega | assumption | exact Nat.le_of_ble_eq_true rfl) only [go_sem, ↓mwp_block, simprocAttr])
    exact hK _ _ ⟨rfl, (S.frame hf).fr⟩
  (try simp (maxSteps := 1000000) (disch := first | omega | assumption | exact Nat.le_of_ble_eq_true rfl) only [go_sem, ↓mwp_block, simprocAttr])
  obtain ⟨Y, hY⟩ : ∃ Y, Y = xs.map Bz.ys := ⟨_, rfl⟩
  have hYl : Y.length = xs.length := by rw [hY, List.length_map]
  have S : St h0 h (ownA bEnc 1 5 (.slice none 0 0) [] :: ownA iEnc 1 3 (.slice none 0 0) [] :: []) := S.nilS.nilS
  refine loop_intro (fun ρ h' => ρ 0 = .slice A xs.length c ∧ ρ 1 = .int .u16 at' ∧ ρ 2 = .int .u8 by' ∧ ρ 32 = .int .i64 xs.length ∧ ∃ (i : Nat) (s s2 : Value) (L : List HP), ρ 33 = .int .i64 i ∧ i ≤ xs.length ∧ ρ 7 = s ∧ ρ 8 = s2 ∧ (∀ y ∈ Y.take i, 1 ≤ y.length ∧ y.length ≤ 2000) ∧ endOf (Y.take i) ≤ i * 2007 ∧
    St h0 h' (ownA bEnc 1 5 s ((Y.take i).flatMap frameOf) :: ownA iEnc 1 3 s2 (placesOf (Y.take i)) :: L)) (fun ρ _ => xs.length - (iv (ρ 33)).toNat) ?_ ?_
  · (try simp (maxSteps := 1000000) (disch := first | omega | assumption | exact Nat.le_of_ble_eq_true rfl) only [go_sem, ↓mwp_block, simprocAttr])
    exact ⟨0, _, _, _, rfl, by omega, rfl, rfl, by simp, by simp [endOf], S⟩
  · clear S
    rintro ρ h J hJ ⟨e0, e1, e2, e32, i, s, s2, L, e33, hi, e7, e8, hsm, hln, S⟩
    (try simp (maxSteps := 1000000) (disch := first | omega | assumption | exact Nat.le_of_ble_eq_true rfl) only [go_sem, ↓mwp_block, simprocAttr, e32, e33])
    refine cond_dec (fun hg => ?_) (fun hg => ?_)
    · have hi1 : i < xs.length := by omega
      have hiY : i < Y.length := by omega
      obtain ⟨bk, off, rfl, hr⟩ := (ha.fr S.fr (by simp)).at hi1
      have hz := hok _ (List.getElem_mem hi1)
      have hp : ∀ {h' : Heap} {l : List HP}, St h0 h' l → rd1 h' (.pointer (some ⟨bk, off + i, none⟩)) = some (.slice (xs[i]).A (xs[i]).ys.length (xs[i]).c) := fun s => rd_arr (ha.fr s.fr (by simp)) hi1 rfl
      have hYi : Y[i] = (xs[i]).ys := by simp [hY]
      have htk := List.take_succ_eq_append_getElem hiY
      have hps := placesOf_succ Y hiY
      rw [hYi] at htk
      generalize xs[i] = z at hz hp htk hYi
      have hfs : (Y.take (i + 1)).flatMap frameOf = (Y.take i).flatMap frameOf ++ frameOf z.ys := by rw [htk, List.flatMap_append]; simp
      obtain ⟨hza, hzl, hzc⟩ := hz
      have hef := endOf_flat (Y.take i)
      have hef2 := endOf_flat (Y.take (i + 1))
      (try simp (maxSteps := 1000000) (disch := first | omega | assumption | exact Nat.le_of_ble_eq_true rfl) only [go_sem, ↓mwp_block, simprocAttr, e0, e33, hp S, Nat.mul_one])
      by_cases g3 : 2000 < z.ys.length
      · (try simp (maxSteps := 1000000) (disch := first | omega | assumption | exact Nat.le_of_ble_eq_true rfl) only [go_sem, ↓mwp_block, simprocAttr])
        exact hK _ _ ⟨rfl, S.fr⟩
      (try simp (maxSteps := 1000000) (disch := first | omega | assumption | exact Nat.le_of_ble_eq_true rfl) only [go_sem, ↓mwp_block, simprocAttr, e0, e33, hp S, Nat.mul_one])
      refine call_intro (Frame_ok (c := z.c) S (fun h' s => hza.fr s.fr (by simp)) (by omega)) ?_
      rintro _ h (⟨hbad, rfl, S⟩ | ⟨hy1, hy2, v, rfl, S⟩)
      · have hz0 : z.ys.length = 0 := by omega
        (try simp (maxSteps := 1000000) (disch := first | omega | assumption | exact Nat.le_of_ble_eq_true rfl) only [go_sem, ↓mwp_block, simprocAttr, e0, e33, hp S, Nat.mul_one])
        exact hK _ _ ⟨rfl, S.fr⟩
      · obtain ⟨B, e, rfl⟩ := S.sl
        have hff := frameOf_len z.ys
        (try simp (maxSteps := 1000000) (disch := first | omega | assumption | exact Nat.le_of_ble_eq_true rfl) only [go_sem, ↓mwp_block, simprocAttr, e7])
        refine st_append (bytes := 1) (ys := frameOf z.ys) bEnc_len (by omega) bEnc_plain rfl S.p1 rfl (src_arr bEnc_len (S.arr bEnc_len) rfl) (by omega) (by omega) ?_
        clear S
        intro v' h S
        rw [← hfs] at S
        obtain ⟨B2, e2', rfl⟩ := S.sl
        have S := S.p2
        (try simp (maxSteps := 1000000) (disch := first | omega | assumption | exact Nat.le_of_ble_eq_true rfl) only [go_sem, ↓mwp_block, simprocAttr, e8])
        (refine st_alloc S ?_; clear S; intro q h S; (try simp only [splice_cons, splice_nil, List.set_cons_zero, List.set_cons_succ, Nat.zero_add, Nat.reduceAdd, List.cons_append, List.nil_append] at S); ((try clear F); have F := S.all; (try simp only [all_cons, all_nil, says_cell, and_true] at F)))
        have hee : (((Y.take (i + 1)).flatMap frameOf).length : Int) = ((endOf (Y.take (i + 1)) : Nat) : Int) := by omega
        rw [hee] at S
        (try simp (maxSteps := 1000000) (disch := first | omega | assumption | exact Nat.le_of_ble_eq_true rfl) only [go_sem, ↓mwp_block, simprocAttr])
        refine st_append1 (bytes := 8) (x := endOf (Y.take (i + 1))) iEnc_len (by omega) iEnc_plain rfl rfl S (by rw [placesOf_len, List.length_take]; omega) (by rw [placesOf_len, List.length_take]; omega) ?_
        clear S F
        intro v2 h S
        rw [← hps] at S
        (try simp (maxSteps := 1000000) (disch := first | omega | assumption | exact Nat.le_of_ble_eq_true rfl) only [go_sem, ↓mwp_block, simprocAttr, e33])
        refine hJ _ _ ?_ ?_
        · (try simp (maxSteps := 1000000) (disch := first | omega | assumption | exact Nat.le_of_ble_eq_true rfl) only [go_sem, ↓mwp_block, simprocAttr, e0, e1, e2, e32, e33])
          refine ⟨i + 1, _, _, _, rfl, by omega, rfl, rfl, ?_, ?_, S.p1⟩
          · intro y hy
            rw [htk] at hy
            rcases List.mem_append.1 hy with hy | hy
            · exact hsm y hy
            · simp at hy
              rw [hy]
              omega
          · rw [hef2, hfs, List.length_append]
            omega
        · (try simp (maxSteps := 1000000) (disch := first | omega | assumption | exact Nat.le_of_ble_eq_true rfl) only [go_sem, ↓mwp_block, simprocAttr, e33])
          omega
    · clear hJ
      obtain rfl : i = xs.length := by omega
      rw [List.take_of_length_le (show Y.length ≤ xs.length by omega)] at S hsm hln
      have hef := endOf_flat Y
      have hpl := placesOf_len Y
      have hYs : ∀ y ∈ Y, 1 ≤ y.length ∧ y.length ≤ 60000 := fun y hy => by have := hsm y hy; omega
      obtain ⟨B, e, rfl⟩ := S.sl
      obtain ⟨B2, e2', rfl⟩ := S.p1.sl
      by_cases g3 : (Y.flatMap frameOf).length = 0
      · (try simp (maxSteps := 1000000) (disch := first | omega | assumption | exact Nat.le_of_ble_eq_true rfl) only [go_sem, ↓mwp_block, simprocAttr, e7])
        exact hK _ _ ⟨rfl, S.fr⟩
      obtain ⟨k, hk, hkl⟩ : ∃ k : Nat, at'.tmod ((Y.flatMap frameOf).length : Int) = k ∧ k < (Y.flatMap frameOf).length := by
        refine ⟨(at'.tmod ((Y.flatMap frameOf).length : Int)).toNat, ?_, ?_⟩
        · rw [Int.toNat_of_nonneg (Int.tmod_nonneg _ hat1)]
        · have := Int.tmod_lt_of_pos at' (show (0 : Int) < (Y.flatMap frameOf).length by omega)
          have := Int.tmod_nonneg ((Y.flatMap frameOf).length : Int) hat1
          omega
      (try simp (maxSteps := 1000000) (disch := first | omega | assumption | exact Nat.le_of_ble_eq_true rfl) only [go_sem, ↓mwp_block, simprocAttr, e1, e7, hk])
      (refine st_alloc S ?_; clear S; intro q h S; (try simp only [splice_cons, splice_nil, List.set_cons_zero, List.set_cons_succ, Nat.zero_add, Nat.reduceAdd, List.cons_append, List.nil_append] at S); ((try clear F); have F := S.all; (try simp only [all_cons, all_nil, says_cell, and_true] at F)))
      have S := S.cellOwn (enc := bEnc) (sz := 1) (ys := []) bEnc_len rfl (by decide)
      (try simp (maxSteps := 1000000) (disch := first | omega | assumption | exact Nat.le_of_ble_eq_true rfl) only [go_sem, ↓mwp_block, simprocAttr, e7])
      refine st_append (bytes := 1) (xs := []) (ys := Y.flatMap frameOf) bEnc_len (by omega) bEnc_plain rfl S rfl (src_arr bEnc_len (S.p1.arr bEnc_len) rfl) (by simp only [List.length_nil]; omega) (by simp only [List.length_nil]; omega) ?_
      clear S F
      intro v3 h S
      rw [List.nil_append] at S
      obtain ⟨B3, e3', rfl⟩ := S.sl
      obtain ⟨b3, rfl⟩ := S.ownAt (by omega)
      have hx : rd1 h (.pointer (some ⟨b3, k, none⟩)) = some (.int .u8 ((Y.flatMap frameOf)[k].toNat : Int)) := by
        have := rd_arr (S.arr bEnc_len) hkl rfl
        rwa [Nat.zero_add] at this
      (try simp (maxSteps := 1000000) (disch := first | omega | assumption | exact Nat.le_of_ble_eq_true rfl) only [go_sem, ↓mwp_block, simprocAttr, hx, e2, Nat.mul_one, bxor8])
      refine st_setOwn (x := (Y.flatMap frameOf)[k] ^^^ B8 by') bEnc_len S hkl (by omega) rfl rfl rfl ?_
      clear S hx
      intro h S
      have hne : (Y.flatMap frameOf)[k]? ≠ some ((Y.flatMap frameOf)[k] ^^^ B8 by') := by
        rw [List.getElem?_eq_getElem hkl]
        intro h
        have h := Option.some.inj h
        have h2 : B8 by' = 0 := by
          have := congrArg ((Y.flatMap frameOf)[k] ^^^ ·) h
          simpa [← UInt8.xor_assoc] using this.symm
        have h3 := B8_toNat by'
        rw [h2] at h3
        simp at h3
        omega
      obtain ⟨n0, hn0, hn1, hn2⟩ := torn_at Y (k := k) (by rw [hef]; exact hkl)
      have hT := torn_law hYs hn0 hn1 hn2 hne
      generalize (Y.flatMap frameOf)[k] ^^^ B8 by' = cc at *
      have hbl : ((Y.flatMap frameOf).set k cc).length = (Y.flatMap frameOf).length := List.length_set
      rw [← hbl] at S ⊢
      generalize (Y.flatMap frameOf).set k cc = bent at *
      have hcp3 := S.cap
      (try simp (maxSteps := 1000000) (disch := first | omega | assumption | exact Nat.le_of_ble_eq_true rfl) only [go_sem, ↓mwp_block, simprocAttr])
      refine call_intro (told_ok 1073741824 ⟨by decide, by decide⟩ S (fun h' s => s.arr bEnc_len) hcp3.2.1 hcp3.2.2 (by omega)) ?_
      clear S
      rintro _ h ⟨s14, s15, rfl, S⟩
      have hfl := frames_lt bent
      rw [tkN_all (by omega)] at S
      obtain ⟨A4, c4, rfl⟩ := lsA_sl S
      obtain ⟨A5, c5, rfl⟩ := S.p1.sl
      have hgl := placesOf_len (framesOf bent)
      (try simp (maxSteps := 1000000) (disch := first | omega | assumption | exact Nat.le_of_ble_eq_true rfl) only [go_sem, ↓mwp_block, simprocAttr])
      have aE := S.p4.arr iEnc_len
      obtain ⟨b2, o2, rfl, _⟩ := aE.at (show 0 < (placesOf Y).length by omega)
      refine loop_intro (fun ρ h' => h' = h ∧ ρ 0 = .slice A xs.length c ∧ ρ 8 = .slice (some ⟨b2, o2, none⟩) (placesOf Y).length e2' ∧ ρ 12 = .int .i64 k ∧ ρ 13 = .slice (some ⟨b3, 0, none⟩) bent.length e3' ∧ ρ 14 = .slice A4 (framesOf bent).length c4 ∧ ρ 15 = .slice A5 (placesOf (framesOf bent)).length c5 ∧ ∃ n : Nat, ρ 16 = .int .i64 n ∧ n ≤ n0) (fun ρ _ => n0 - (iv (ρ 16)).toNat) ?_ ?_
      · (try simp (maxSteps := 1000000) (disch := first | omega | assumption | exact Nat.le_of_ble_eq_true rfl) only [go_sem, ↓mwp_block, simprocAttr, e0, e8])
        exact ⟨0, rfl, by omega⟩
      · clear e0 e1 e2 e7 e8 e32 e33
        rintro ρ h' J hJ ⟨rfl, e0, e8, e12, e13, e14, e15, n, e16, hn⟩
        have hnl : n < (placesOf Y).length := by omega
        have hE : rd1 h' (.pointer (some ⟨b2, o2 + n, none⟩)) = some (.int .i64 (endOf (Y.take (n + 1)) : Nat)) := rd_arr aE hnl (by rw [places_at]; rfl)
        by_cases hc1 : n < n0
        · have := endOf_mono Y (a := n + 1) (b := n0) hc1
          (try simp (maxSteps := 1000000) (disch := first | omega | assumption | exact Nat.le_of_ble_eq_true rfl) only [go_sem, ↓mwp_block, simprocAttr, e8, e12, e16, hE, Nat.mul_one])
          refine hJ _ _ ?_ ?_
          · (try simp (maxSteps := 1000000) (disch := first | omega | assumption | exact Nat.le_of_ble_eq_true rfl) only [go_sem, ↓mwp_block, simprocAttr, e0, e8, e12, e13, e14, e15, e16])
            exact ⟨n + 1, rfl, hc1⟩
          · (try simp (maxSteps := 1000000) (disch := first | omega | assumption | exact Nat.le_of_ble_eq_true rfl) only [go_sem, ↓mwp_block, simprocAttr, e16])
            omega
        · obtain rfl : n = n0 := by omega
          clear hJ
          (try simp (maxSteps := 1000000) (disch := first | omega | assumption | exact Nat.le_of_ble_eq_true rfl) only [go_sem, ↓mwp_block, simprocAttr, e8, e12, e16, hE, Nat.mul_one, e13])
          refine call_intro (RefFrames_ok S (fun h' s => s.p2.arr bEnc_len) hcp3.2.1 hcp3.2.2 (by omega)) ?_
          clear hE aE
          rintro _ h ⟨s17, s18, rfl, S'⟩
          obtain ⟨A7, c7, rfl⟩ := lsA_sl S'
          have S := S'.tl.tl
          obtain ⟨zs7, hz7, hn7, r7⟩ := rl_of S'
          obtain ⟨zs4, hz4, hn4, r4⟩ := rl_of S
          obtain ⟨hT1, hT2, hT3⟩ := hT
          have aE := S.p4.arr iEnc_len
          have aG := S.p1.arr iEnc_len
          have hbig : ∀ x ∈ framesOf bent, x.length < 1000000000 := fun x hx => by have := (frames_small hx).2; omega
          have hbigY : ∀ x ∈ Y, x.length < 1000000000 := fun x hx => by have := (hYs x hx).2; omega
          have hc4 := lsA_cap S
          (try simp (maxSteps := 1000000) (disch := first | omega | assumption | exact Nat.le_of_ble_eq_true rfl) only [go_sem, ↓mwp_block, simprocAttr, e14, e15, e16, e0, e8])
          refine draw_eq ?_
          (try simp (maxSteps := 1000000) (disch := first | omega | assumption | exact Nat.le_of_ble_eq_true rfl) only [go_sem, ↓mwp_block, simprocAttr, e14, e15, e16, e0, e8])
          have hz4l : (zs4.take n).length = n := by rw [List.length_take]; omega
          have hxl : (xs.take n).length = n := by rw [List.length_take]; omega
          have e4 : (zs4.take n).map Bz.ys = (xs.take n).map Bz.ys := by rw [List.map_take, hz4, hT2, hY, List.map_take]
          have hL := Lists_ok (c := c4) (d := c) (r4.take n) (((rl_arg ha hok).fr S.fr).take n) (small_of rfl (fun x hx => hbig x (by rw [← hz4]; exact (List.map_subset _ (List.take_subset _ _)) hx))) (small_of rfl (fun x hx => hbigY x (by rw [hY]; exact (List.map_subset _ (List.take_subset _ _)) hx))) (by omega) (by omega)
          rw [e4, hz4l, hxl] at hL
          refine call_intro hL ?_
          rintro _ _ ⟨rfl, rfl⟩
          refine ⟨rfl, ?_⟩
          have hL2 := Lists_ok (c := c4) (d := c7) r4 r7 (small_of hz4 hbig) (small_of hz7 hbig) (by omega) (by omega)
          rw [hz4, hz7, ← hn4, ← hn7] at hL2
          (try simp (maxSteps := 1000000) (disch := first | omega | assumption | exact Nat.le_of_ble_eq_true rfl) only [go_sem, ↓mwp_block, simprocAttr, e14])
          refine call_intro hL2 ?_
          rintro _ _ ⟨rfl, rfl⟩
          refine ⟨rfl, ?_⟩
          by_cases hq : (framesOf bent).length = n
          · (try simp (maxSteps := 1000000) (disch := first | omega | assumption | exact Nat.le_of_ble_eq_true rfl) only [go_sem, ↓mwp_block, simprocAttr, e14, e15, e16, e8])
            exact hK _ _ ⟨rfl, S.fr⟩
          · have hT3 := hT3.resolve_left hq
            obtain ⟨b5, o5, rfl, _⟩ := aG.at (show 0 < (placesOf (framesOf bent)).length by omega)
            have p1 := rd_arr (v := .int .i64 (endOf ((framesOf bent).take (n + 1)) : Nat)) aG (show n < (placesOf (framesOf bent)).length by omega) (by rw [places_at]; rfl)
            have p2 := rd_arr (v := .int .i64 (endOf (Y.take (n + 1)) : Nat)) aE hnl (by rw [places_at]; rfl)
            (try simp (maxSteps := 1000000) (disch := first | omega | assumption | exact Nat.le_of_ble_eq_true rfl) only [go_sem, ↓mwp_block, simprocAttr, e14, e15, e16, e8, p1, p2, Nat.mul_one])
            exact hK _ _ ⟨rfl, S.fr⟩
end Go.Proofs.Ytackopkhelochaa.MX
