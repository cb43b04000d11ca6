/- Texts in one file: Dr5, Dr6, Dr7, Ds1. -/
import Derived.Test.YtnjjdpeglkiifaaK19
import Derived.Test.YtnjjdpeglkiifaaK17

/- The reference's disk: cut. -/
namespace Go.Proofs.Ytnjjdpeglkiifaa.MX
open Go Go.Proofs
set_option linter.unusedSimpArgs false
set_option linter.unusedVariables false

set_option maxHeartbeats 4000000 in
theorem RAct2_ok (n m : Int) (v : Value) {h0 h : Heap} {l : List HP} {w : Nat} {D : Dk} (S : St h0 h (refA w D :: l)) (ok : D.ok) :
    CallsH Try.prog 49 [.pointer (some ⟨w, 0, none⟩), .int .i64 2, .int .i64 n, .int .i64 m, v] h fun v h' => v = .int .i64 (cutD D n m).2 ∧ St h0 h' (refA w (cutD D n m).1 :: l) := by
  have S0 := S
  obtain ⟨zs, hz, h8, S⟩ := refA_open.1 S
  have hlo := rcells_lost (cap := D.cap) (fuse := D.fuse) (lost := D.lost) h8
  have hfu := rcells_fuse (cap := D.cap) (fuse := D.fuse) (lost := D.lost) h8
  obtain ⟨hf1, hf2⟩ := ok.fuse
  (refine enterK c_recoupref01_Disk_Act (Nat.le_of_ble_eq_true rfl) fun K hK => ?_; (try simp (maxSteps := 1000000) (disch := first | omega | assumption | exact Nat.le_of_ble_eq_true rfl) only [go_sem, ↓mwp_block, simprocAttr, ir_recoupref01_Disk_Act]))
  ((try clear F); have F := S.all; (try simp only [all_cons, all_nil, says_cell, and_true] at F))
  (try simp (maxSteps := 1000000) (disch := first | omega | assumption | exact Nat.le_of_ble_eq_true rfl) only [go_sem, ↓mwp_block, simprocAttr, F, hlo])
  cases hd : D.lost
  · by_cases hn0 : n < 0
    · (try simp (maxSteps := 1000000) (disch := first | omega | assumption | exact Nat.le_of_ble_eq_true rfl) only [go_sem, ↓mwp_block, simprocAttr, hd])
      refine hK _ _ ?_
      have ha : askE D n = 1 := by simp only [askE, hd, Bool.false_eq_true, if_false]; rw [if_neg (by omega)]
      simp only [cutD, thereE, ha, ne_eq, show ¬ ((1 : Int) = 0) by decide, not_false_eq_true, if_true]
      exact ⟨trivial, S0⟩
    by_cases hn1 : 7 < n
    · (try simp (maxSteps := 1000000) (disch := first | omega | assumption | exact Nat.le_of_ble_eq_true rfl) only [go_sem, ↓mwp_block, simprocAttr, hd])
      refine hK _ _ ?_
      have ha : askE D n = 1 := by simp only [askE, hd, Bool.false_eq_true, if_false]; rw [if_neg (by omega)]
      simp only [cutD, thereE, ha, ne_eq, show ¬ ((1 : Int) = 0) by decide, not_false_eq_true, if_true]
      exact ⟨trivial, S0⟩
    have hn : 0 ≤ n ∧ n < 8 := by omega
    have ha : askE D n = 0 := by simp only [askE, hd, Bool.false_eq_true, if_false]; rw [if_pos hn]
    have hlt : n.toNat < zs.length := by omega
    have hc0 := rcells_at (cap := D.cap) (fuse := D.fuse) (lost := D.lost) (k := 0) hlt (by omega)
    have hfo := rsnd hz hn hlt
    rw [hd] at hc0 hfu
    generalize hzz : zs[n.toNat] = z at hc0 hfo
    obtain ⟨s, o⟩ := z
    simp only [rcell, List.getElem?_cons_succ, List.getElem?_cons_zero, Nat.add_zero] at hc0 hfo
    cases o with
    | none =>
      simp only [Option.isSome_none] at hc0
      (try simp (maxSteps := 1000000) (disch := first | omega | assumption | exact Nat.le_of_ble_eq_true rfl) only [go_sem, ↓mwp_block, simprocAttr, hd, F, hc0])
      refine hK _ _ ?_
      simp only [cutD, thereE, ha, hfo, ne_eq, not_true_eq_false, if_false, Option.isNone_none, if_true, show ¬ ((7 : Int) = 0) by decide, not_false_eq_true]
      exact ⟨trivial, S0⟩
    | some f =>
      simp only [Option.isSome_some] at hc0
      have ht : thereE D n = 0 := by simp [thereE, ha, hfo]
      obtain ⟨B, e, hs, hle⟩ : ∃ B e, s = .slice B f.bs.length e ∧ f.bs.length ≤ e := by
        have := row_pick hlt S
        rw [hzz] at this
        obtain ⟨B, e, hs⟩ := St.sl (xs := f.bs) this
        subst hs
        exact ⟨B, e, rfl, ((St.own (enc := bEnc) (sz := 1) (T := 5) (xs := f.bs) (v := .slice B f.bs.length e) this).arr bEnc_len).2.2⟩
      subst hs
      have hmem : some f ∈ D.fs := by rw [← hz]; exact List.mem_map.2 ⟨zs[n.toNat], List.getElem_mem hlt, by rw [hzz]⟩
      have hbl : f.bs.length ≤ used D.fs := by
        obtain ⟨k, hk, hkf⟩ := List.getElem_of_mem hmem
        have := used_get hk
        rw [hkf] at this
        exact this
      have hro := ok.room
      have hcp := ok.cap
      have hc1 := fun fu => rcells_at (cap := D.cap) (fuse := fu) (lost := false) (k := 1) hlt (by omega)
      rw [hzz] at hc1
      simp only [rcell, List.getElem?_cons_succ, List.getElem?_cons_zero] at hc1
      by_cases hm0 : m < 0
      · (try simp (maxSteps := 1000000) (disch := first | omega | assumption | exact Nat.le_of_ble_eq_true rfl) only [go_sem, ↓mwp_block, simprocAttr, hd, F, hc0, hc1])
        refine hK _ _ ?_
        simp only [cutD, ht, ne_eq, not_true_eq_false, if_false, hfo, Option.getD_some, if_pos (Or.inl hm0 : m < 0 ∨ (f.bs.length : Int) < m)]
        exact ⟨trivial, S0⟩
      by_cases hm1 : (f.bs.length : Int) < m
      · (try simp (maxSteps := 1000000) (disch := first | omega | assumption | exact Nat.le_of_ble_eq_true rfl) only [go_sem, ↓mwp_block, simprocAttr, hd, F, hc0, hc1])
        refine hK _ _ ?_
        simp only [cutD, ht, ne_eq, not_true_eq_false, if_false, hfo, Option.getD_some, if_pos (Or.inr hm1 : m < 0 ∨ (f.bs.length : Int) < m)]
        exact ⟨trivial, S0⟩
      have hno : ¬ (m < 0 ∨ (f.bs.length : Int) < m) := by omega
      obtain ⟨k, rfl⟩ := Int.eq_ofNat_of_zero_le (show 0 ≤ m by omega)
      (try simp (maxSteps := 1000000) (disch := first | omega | assumption | exact Nat.le_of_ble_eq_true rfl) only [go_sem, ↓mwp_block, simprocAttr, hd, F, hc0, hc1, hfu])
      refine draw_eq ?_
      (try simp (maxSteps := 1000000) (disch := first | omega | assumption | exact Nat.le_of_ble_eq_true rfl) only [go_sem, ↓mwp_block, simprocAttr, hd, F, hc0, hfu])
      by_cases hz0 : D.fuse = 0
      · (try simp (maxSteps := 1000000) (disch := first | omega | assumption | exact Nat.le_of_ble_eq_true rfl) only [go_sem, ↓mwp_block, simprocAttr])
        refine st_store S rfl rfl (by rw [rcells_len h8]; omega) ?_
        clear S F
        intro h S
        rw [rcells_setL h8] at S
        (try simp (maxSteps := 1000000) (disch := first | omega | assumption | exact Nat.le_of_ble_eq_true rfl) only [go_sem, ↓mwp_block, simprocAttr])
        refine hK _ _ ?_
        simp only [cutD, ht, ne_eq, not_true_eq_false, if_false, hfo, Option.getD_some, if_neg hno, if_pos hz0]
        exact ⟨trivial, refA_open.2 ⟨zs, hz, h8, S⟩⟩
      · by_cases hp : 0 < D.fuse
        · (try simp (maxSteps := 1000000) (disch := first | omega | assumption | exact Nat.le_of_ble_eq_true rfl) only [go_sem, ↓mwp_block, simprocAttr, hd, F, hfu])
          refine st_store S rfl rfl (by rw [rcells_len h8]; omega) ?_
          clear S F
          intro h S
          rw [rcells_setF h8] at S
          have hbu : burnF D.fuse = D.fuse - 1 := by rw [burnF, if_pos hp]
          (try simp (maxSteps := 1000000) (disch := first | omega | assumption | exact Nat.le_of_ble_eq_true rfl) only [go_sem, ↓mwp_block, simprocAttr])
          rw [hd] at S
          refine draw_st S ?_
          have rx : ∀ off K t, readT (fun h' => St h0 h' _) (fun h' => rd1 h' (.pointer (some ⟨w, off, none⟩))) K t = bindT ((rcells D.cap zs (D.fuse - 1) false)[off]?) K ⟨⟩ := fun off K t => reads_of S (fun h' s => st_rd1 s)
          (try simp (maxSteps := 1000000) (disch := first | omega | assumption | exact Nat.le_of_ble_eq_true rfl) only [go_sem, ↓mwp_block, simprocAttr, hd, rx, hc1])
          (refine st_alloc S ?_; clear S; intro q h S; (try simp only [splice_cons, splice_nil, List.set_cons_zero, List.set_cons_succ, Nat.zero_add, Nat.reduceAdd, List.cons_append, List.nil_append] at S); ((try clear F); have F := S.all; (try simp only [all_cons, all_nil, says_cell, and_true] at F)))
          have S := S.cellOwn (enc := bEnc) (sz := 1) (ys := []) bEnc_len rfl (by decide)
          try refine chk_any (S.tl) ?_
          have harr : Arr bEnc 1 h B f.bs := by
            have := row_pick hlt S.tl
            rw [hzz] at this
            exact St.arr this bEnc_len
          (try simp (maxSteps := 1000000) (disch := first | omega | assumption | exact Nat.le_of_ble_eq_true rfl) only [go_sem, ↓mwp_block, simprocAttr])
          refine st_append (bytes := 1) (xs := []) (ys := f.bs.take k) bEnc_len (by omega) bEnc_plain rfl S (by simp [srcLen]; omega) (src_arr bEnc_len (arr_take harr _) (by simp; omega)) (by simp; omega) (by simp; omega) ?_
          clear S F
          intro v' h S
          simp only [List.nil_append] at S
          obtain ⟨B2, e2, rfl⟩ := S.sl
          try refine chk_any (S.tl) ?_
          (try simp (maxSteps := 1000000) (disch := first | omega | assumption | exact Nat.le_of_ble_eq_true rfl) only [go_sem, ↓mwp_block, simprocAttr])
          refine st_store S.p1 rfl rfl (by rw [rcells_len h8]; omega) ?_
          clear S
          intro h S
          have hset := rcells_set (cap := D.cap) (fuse := (D.fuse - 1)) (lost := false) hlt (.slice B2 (f.bs.take k).length e2, some ⟨f.bs.take k, k⟩)
          simp only [rcell, Option.isSome_some, safeF] at hset
          rw [hset] at S
          have S := row_swap (F := rslotA) (z := (Value.slice B2 (f.bs.take k).length e2, some ⟨f.bs.take k, k⟩)) hlt S
          (try simp (maxSteps := 1000000) (disch := first | omega | assumption | exact Nat.le_of_ble_eq_true rfl) only [go_sem, ↓mwp_block, simprocAttr])
          refine hK _ _ ?_
          simp only [cutD, ht, ne_eq, not_true_eq_false, if_false, hfo, Option.getD_some, if_neg hno, if_neg hz0, Int.toNat_natCast, hbu]
          refine ⟨trivial, refA_open.2 ⟨zs.set n.toNat (.slice B2 (f.bs.take k).length e2, some ⟨f.bs.take k, k⟩), ?_, by simpa using h8, ?_⟩⟩
          · rw [List.map_set, hz]
          · show St h0 h (cellA w (rcells D.cap _ _ D.lost) _ :: _)
            rw [hd]
            exact S
        · have hbu : burnF D.fuse = D.fuse := by rw [burnF, if_neg hp]
          (try simp (maxSteps := 1000000) (disch := first | omega | assumption | exact Nat.le_of_ble_eq_true rfl) only [go_sem, ↓mwp_block, simprocAttr, hd, F, hfu])
          rw [hd] at S
          refine draw_st S ?_
          have rx : ∀ off K t, readT (fun h' => St h0 h' _) (fun h' => rd1 h' (.pointer (some ⟨w, off, none⟩))) K t = bindT ((rcells D.cap zs D.fuse false)[off]?) K ⟨⟩ := fun off K t => reads_of S (fun h' s => st_rd1 s)
          (try simp (maxSteps := 1000000) (disch := first | omega | assumption | exact Nat.le_of_ble_eq_true rfl) only [go_sem, ↓mwp_block, simprocAttr, hd, rx, hc1])
          (refine st_alloc S ?_; clear S; intro q h S; (try simp only [splice_cons, splice_nil, List.set_cons_zero, List.set_cons_succ, Nat.zero_add, Nat.reduceAdd, List.cons_append, List.nil_append] at S); ((try clear F); have F := S.all; (try simp only [all_cons, all_nil, says_cell, and_true] at F)))
          have S := S.cellOwn (enc := bEnc) (sz := 1) (ys := []) bEnc_len rfl (by decide)
          try refine chk_any (S.tl) ?_
          have harr : Arr bEnc 1 h B f.bs := by
            have := row_pick hlt S.tl
            rw [hzz] at this
            exact St.arr this bEnc_len
          (try simp (maxSteps := 1000000) (disch := first | omega | assumption | exact Nat.le_of_ble_eq_true rfl) only [go_sem, ↓mwp_block, simprocAttr])
          refine st_append (bytes := 1) (xs := []) (ys := f.bs.take k) bEnc_len (by omega) bEnc_plain rfl S (by simp [srcLen]; omega) (src_arr bEnc_len (arr_take harr _) (by simp; omega)) (by simp; omega) (by simp; omega) ?_
          clear S F
          intro v' h S
          simp only [List.nil_append] at S
          obtain ⟨B2, e2, rfl⟩ := S.sl
          try refine chk_any (S.tl) ?_
          (try simp (maxSteps := 1000000) (disch := first | omega | assumption | exact Nat.le_of_ble_eq_true rfl) only [go_sem, ↓mwp_block, simprocAttr])
          refine st_store S.p1 rfl rfl (by rw [rcells_len h8]; omega) ?_
          clear S
          intro h S
          have hset := rcells_set (cap := D.cap) (fuse := D.fuse) (lost := false) hlt (.slice B2 (f.bs.take k).length e2, some ⟨f.bs.take k, k⟩)
          simp only [rcell, Option.isSome_some, safeF] at hset
          rw [hset] at S
          have S := row_swap (F := rslotA) (z := (Value.slice B2 (f.bs.take k).length e2, some ⟨f.bs.take k, k⟩)) hlt S
          (try simp (maxSteps := 1000000) (disch := first | omega | assumption | exact Nat.le_of_ble_eq_true rfl) only [go_sem, ↓mwp_block, simprocAttr])
          refine hK _ _ ?_
          simp only [cutD, ht, ne_eq, not_true_eq_false, if_false, hfo, Option.getD_some, if_neg hno, if_neg hz0, Int.toNat_natCast, hbu]
          refine ⟨trivial, refA_open.2 ⟨zs.set n.toNat (.slice B2 (f.bs.take k).length e2, some ⟨f.bs.take k, k⟩), ?_, by simpa using h8, ?_⟩⟩
          · rw [List.map_set, hz]
          · show St h0 h (cellA w (rcells D.cap _ _ D.lost) _ :: _)
            rw [hd]
            exact S
  · (try simp (maxSteps := 1000000) (disch := first | omega | assumption | exact Nat.le_of_ble_eq_true rfl) only [go_sem, ↓mwp_block, simprocAttr, hd])
    refine hK _ _ ?_
    have ha : askE D n = 6 := by simp only [askE, hd, if_true]
    simp only [cutD, thereE, ha, ne_eq, show ¬ ((6 : Int) = 0) by decide, not_false_eq_true, if_true]
    exact ⟨trivial, S0⟩
end Go.Proofs.Ytnjjdpeglkiifaa.MX

/- The reference's disk: append. -/
namespace Go.Proofs.Ytnjjdpeglkiifaa.MX
open Go Go.Proofs
set_option linter.unusedSimpArgs false
set_option linter.unusedVariables false

set_option maxRecDepth 4000 in
set_option maxHeartbeats 8000000 in
theorem RAct0_ok (n m : Int) {h0 h : Heap} {l : List HP} {w : Nat} {D : Dk} {A : Option Addr} {c : Nat} {bs : List UInt8} (S : St h0 h (refA w D :: l)) (ok : D.ok) (ha : ∀ h', St h0 h' l → Arr bEnc 1 h' A bs) (hc : bs.length ≤ c) (hb : bs.length < 9223372036854775808) :
    CallsH Try.prog 49 [.pointer (some ⟨w, 0, none⟩), .int .i64 0, .int .i64 n, .int .i64 m, .slice A bs.length c] h fun v h' => v = .int .i64 (appendD D n bs).2 ∧ St h0 h' (refA w (appendD D n bs).1 :: l) := by
  have S0 := S
  obtain ⟨zs, hz, h8, S⟩ := refA_open.1 S
  have hlo := rcells_lost (cap := D.cap) (fuse := D.fuse) (lost := D.lost) h8
  have hfu := rcells_fuse (cap := D.cap) (fuse := D.fuse) (lost := D.lost) h8
  obtain ⟨hf1, hf2⟩ := ok.fuse
  (refine enterK c_recoupref01_Disk_Act (Nat.le_of_ble_eq_true rfl) fun K hK => ?_; (try simp (maxSteps := 1000000) (disch := first | omega | assumption | exact Nat.le_of_ble_eq_true rfl) only [go_sem, ↓mwp_block, simprocAttr, ir_recoupref01_Disk_Act]))
  ((try clear F); have F := S.all; (try simp only [all_cons, all_nil, says_cell, and_true] at F))
  (try simp (maxSteps := 1000000) (disch := first | omega | assumption | exact Nat.le_of_ble_eq_true rfl) only [go_sem, ↓mwp_block, simprocAttr, F, hlo])
  cases hd : D.lost
  · by_cases hn0 : n < 0
    · (try simp (maxSteps := 1000000) (disch := first | omega | assumption | exact Nat.le_of_ble_eq_true rfl) only [go_sem, ↓mwp_block, simprocAttr, hd])
      refine hK _ _ ?_
      have ha : askE D n = 1 := by simp only [askE, hd, Bool.false_eq_true, if_false]; rw [if_neg (by omega)]
      simp only [appendD, ha, ne_eq, show ¬ ((1 : Int) = 0) by decide, not_false_eq_true, if_true]
      exact ⟨trivial, S0⟩
    by_cases hn1 : 7 < n
    · (try simp (maxSteps := 1000000) (disch := first | omega | assumption | exact Nat.le_of_ble_eq_true rfl) only [go_sem, ↓mwp_block, simprocAttr, hd])
      refine hK _ _ ?_
      have ha : askE D n = 1 := by simp only [askE, hd, Bool.false_eq_true, if_false]; rw [if_neg (by omega)]
      simp only [appendD, ha, ne_eq, show ¬ ((1 : Int) = 0) by decide, not_false_eq_true, if_true]
      exact ⟨trivial, S0⟩
    have hn : 0 ≤ n ∧ n < 8 := by omega
    have hae : askE D n = 0 := by simp only [askE, hd, Bool.false_eq_true, if_false]; rw [if_pos hn]
    have hlt : n.toNat < zs.length := by omega
    (try simp (maxSteps := 1000000) (disch := first | omega | assumption | exact Nat.le_of_ble_eq_true rfl) only [go_sem, ↓mwp_block, simprocAttr, hd, F])
    refine call_intro (RRoom_ok S0 ok) ?_
    rintro _ _ ⟨rfl, rfl⟩
    by_cases hr : (bs.length : Int) > D.cap - used D.fs
    · (try simp (maxSteps := 1000000) (disch := first | omega | assumption | exact Nat.le_of_ble_eq_true rfl) only [go_sem, ↓mwp_block, simprocAttr])
      refine hK _ _ ?_
      simp only [appendD, hae, ne_eq, not_true_eq_false, if_false, if_pos hr]
      exact ⟨trivial, S0⟩
    have hc1 := fun fu lo => rcells_at (cap := D.cap) (fuse := fu) (lost := lo) (k := 1) hlt (by omega)
    have hc2 := fun fu lo => rcells_at (cap := D.cap) (fuse := fu) (lost := lo) (k := 2) hlt (by omega)
    have hfo := rsnd hz hn hlt
    have hsz := used_get (fs := D.fs) (k := n.toNat) (by have := ok.len; omega)
    have hfs : D.fs[n.toNat]'(by have := ok.len; omega) = (zs[n.toNat]).2 := by
      have : D.fs[n.toNat]? = (zs.map Prod.snd)[n.toNat]? := by rw [hz]
      rw [List.getElem?_map, List.getElem?_eq_getElem (by have := ok.len; omega), List.getElem?_eq_getElem hlt] at this
      exact Option.some.inj this
    rw [hfs] at hsz
    rw [hd] at hfu
    generalize hzz : zs[n.toNat] = z at hc1 hc2 hfo hsz
    obtain ⟨s, o⟩ := z
    simp only [rcell, List.getElem?_cons_succ, List.getElem?_cons_zero] at hc1 hc2 hfo hsz
    obtain ⟨f, hgf⟩ : ∃ f, (fileOf D n).getD ⟨[], 0⟩ = f := ⟨_, rfl⟩
    have hbf : bsF o = f.bs := by rw [← hgf, hfo]; cases o <;> rfl
    have hsf : safeF o = f.safe := by rw [← hgf, hfo]; cases o <;> rfl
    have hzf : szF o = f.bs.length := by rw [← hbf]; cases o <;> rfl
    rw [hsf] at hc2
    rw [hzf] at hsz
    obtain ⟨B, e, hs, hle⟩ : ∃ B e, s = .slice B f.bs.length e ∧ f.bs.length ≤ e := by
      have := row_pick hlt S
      rw [hzz, rslotA, hbf] at this
      obtain ⟨B, e, hs⟩ := St.sl (xs := f.bs) this
      simp only at hs
      subst hs
      exact ⟨B, e, rfl, ((St.own (enc := bEnc) (sz := 1) (T := 5) (xs := f.bs) (v := .slice B f.bs.length e) this).arr bEnc_len).2.2⟩
    subst hs
    have hro := ok.room
    have hcp := ok.cap
    have hq : ((bs.length : Int)).tdiv 2 = ((bs.length / 2 : Nat) : Int) := by rw [Int.tdiv_eq_ediv_of_nonneg (by omega)]; omega
    have last : ∀ (fu : Int) (lo : Bool) (ys : List UInt8) (h : Heap) (B2 : Option Addr) (e2 : Nat), St h0 h (cellA w (splice (rcells D.cap zs fu lo) (1 + n.toNat * 3) [.bool true, .slice B2 (f.bs ++ ys).length e2, .int .i64 f.safe]) 132 :: ownA bEnc 1 5 (.slice B2 (f.bs ++ ys).length e2) (f.bs ++ ys) :: (zs.map rslotA ++ l)) →
        St h0 h (refA w ⟨D.cap, D.fs.set n.toNat (some ⟨f.bs ++ ys, f.safe⟩), fu, lo⟩ :: l) := by
      intro fu lo ys h B2 e2 S
      have hset := rcells_set (cap := D.cap) (fuse := fu) (lost := lo) hlt (.slice B2 (f.bs ++ ys).length e2, some ⟨f.bs ++ ys, f.safe⟩)
      simp only [rcell, Option.isSome_some, safeF] at hset
      rw [hset] at S
      have S := row_swap (F := rslotA) (z := (Value.slice B2 (f.bs ++ ys).length e2, some ⟨f.bs ++ ys, f.safe⟩)) hlt S
      refine refA_open.2 ⟨zs.set n.toNat (.slice B2 (f.bs ++ ys).length e2, some ⟨f.bs ++ ys, f.safe⟩), ?_, by simpa using h8, S⟩
      rw [List.map_set, hz]
    have harr : ∀ {h : Heap} {fu : Int} {lo : Bool}, St h0 h (cellA w (rcells D.cap zs fu lo) 132 :: (zs.map rslotA ++ l)) → Arr bEnc 1 h B f.bs := by
      intro h fu lo S
      have := row_pick hlt S
      rw [hzz, rslotA, hbf] at this
      exact St.arr this bEnc_len
    clear F
    ((try clear F); have F := S.all; (try simp only [all_cons, all_nil, says_cell, and_true] at F))
    (try simp (maxSteps := 1000000) (disch := first | omega | assumption | exact Nat.le_of_ble_eq_true rfl) only [go_sem, ↓mwp_block, simprocAttr, hd, F, hfu])
    refine draw_eq ?_
    (try simp (maxSteps := 1000000) (disch := first | omega | assumption | exact Nat.le_of_ble_eq_true rfl) only [go_sem, ↓mwp_block, simprocAttr, hd, F, hfu])
    by_cases hz0 : D.fuse = 0
    · (try simp (maxSteps := 1000000) (disch := first | omega | assumption | exact Nat.le_of_ble_eq_true rfl) only [go_sem, ↓mwp_block, simprocAttr])
      refine st_store S rfl rfl (by rw [rcells_len h8]; omega) ?_
      clear S F
      intro h S
      rw [rcells_setL h8] at S
      (try simp (maxSteps := 1000000) (disch := first | omega | assumption | exact Nat.le_of_ble_eq_true rfl) only [go_sem, ↓mwp_block, simprocAttr])
      refine draw_st S ?_
      have rx : ∀ off K t, readT (fun h' => St h0 h' _) (fun h' => rd1 h' (.pointer (some ⟨w, off, none⟩))) K t = bindT ((rcells D.cap zs D.fuse true)[off]?) K ⟨⟩ := fun off K t => reads_of S (fun h' s => st_rd1 s)
      (try simp (maxSteps := 1000000) (disch := first | omega | assumption | exact Nat.le_of_ble_eq_true rfl) only [go_sem, ↓mwp_block, simprocAttr, rx, hc1, hc2, hq])
      (refine st_alloc S ?_; clear S; intro q h S; (try simp only [splice_cons, splice_nil, List.set_cons_zero, List.set_cons_succ, Nat.zero_add, Nat.reduceAdd, List.cons_append, List.nil_append] at S); ((try clear F); have F := S.all; (try simp only [all_cons, all_nil, says_cell, and_true] at F)))
      have S := S.cellOwn (enc := bEnc) (sz := 1) (ys := []) bEnc_len rfl (by decide)
      try refine chk_any S.tl ?_
      (try simp (maxSteps := 1000000) (disch := first | omega | assumption | exact Nat.le_of_ble_eq_true rfl) only [go_sem, ↓mwp_block, simprocAttr])
      refine st_append (bytes := 1) (xs := []) (ys := f.bs) bEnc_len (by omega) bEnc_plain rfl S rfl (src_arr bEnc_len (harr S.tl) rfl) (by simp; omega) (by simp; omega) ?_
      clear S F
      intro v' h S
      simp only [List.nil_append] at S
      obtain ⟨B1, e1, rfl⟩ := S.sl
      try refine chk_any S.tl ?_
      (try simp (maxSteps := 1000000) (disch := first | omega | assumption | exact Nat.le_of_ble_eq_true rfl) only [go_sem, ↓mwp_block, simprocAttr])
      refine st_append (bytes := 1) (xs := f.bs) (ys := bs.take (bs.length / 2)) bEnc_len (by omega) bEnc_plain rfl S (by simp [srcLen]; omega) (src_arr bEnc_len (arr_take (ha _ S.tl.tl.dropL) _) (by simp; omega)) (by simp; omega) (by simp; omega) ?_
      clear S
      intro v' h S
      obtain ⟨B2, e2, rfl⟩ := S.sl
      try refine chk_any S.tl ?_
      (try simp (maxSteps := 1000000) (disch := first | omega | assumption | exact Nat.le_of_ble_eq_true rfl) only [go_sem, ↓mwp_block, simprocAttr])
      refine st_store S.p1 rfl rfl (by rw [rcells_len h8]; omega) ?_
      clear S
      intro h S
      (try simp (maxSteps := 1000000) (disch := first | omega | assumption | exact Nat.le_of_ble_eq_true rfl) only [go_sem, ↓mwp_block, simprocAttr])
      refine hK _ _ ?_
      simp only [appendD, hae, ne_eq, not_true_eq_false, if_false, if_neg hr, if_pos hz0, hgf]
      exact ⟨trivial, last _ _ _ _ _ _ S⟩
    · have last2 : ∀ (fu : Int) (h : Heap) (B2 : Option Addr) (e2 : Nat), fu = burnF D.fuse → St h0 h (cellA w (splice (rcells D.cap zs fu false) (1 + n.toNat * 3) [.bool true, .slice B2 (f.bs ++ bs).length e2, .int .i64 f.safe]) 132 :: ownA bEnc 1 5 (.slice B2 (f.bs ++ bs).length e2) (f.bs ++ bs) :: (zs.map rslotA ++ l)) → (Value.int .i64 0 = .int .i64 (appendD D n bs).2 ∧ St h0 h (refA w (appendD D n bs).1 :: l)) := by
        intro fu h B2 e2 hfe S
        have := last _ _ _ _ _ _ S
        simp only [appendD, hae, ne_eq, not_true_eq_false, if_false, if_neg hr, if_neg hz0, hgf]
        refine ⟨trivial, ?_⟩
        rw [← hfe, hd]
        exact this
      by_cases hp : 0 < D.fuse
      · (try simp (maxSteps := 1000000) (disch := first | omega | assumption | exact Nat.le_of_ble_eq_true rfl) only [go_sem, ↓mwp_block, simprocAttr, hd, F, hfu])
        refine st_store S rfl rfl (by rw [rcells_len h8]; omega) ?_
        clear S F
        intro h S
        rw [rcells_setF h8] at S
        have hbu : burnF D.fuse = D.fuse - 1 := by rw [burnF, if_pos hp]
        (try simp (maxSteps := 1000000) (disch := first | omega | assumption | exact Nat.le_of_ble_eq_true rfl) only [go_sem, ↓mwp_block, simprocAttr])
        rw [hd] at S
        clear hfu hlo
        generalize hfe : D.fuse - 1 = fu at S hbu
        refine draw_st S ?_
        have rx : ∀ off K t, readT (fun h' => St h0 h' _) (fun h' => rd1 h' (.pointer (some ⟨w, off, none⟩))) K t = bindT ((rcells D.cap zs fu false)[off]?) K ⟨⟩ := fun off K t => reads_of S (fun h' s => st_rd1 s)
        (try simp (maxSteps := 1000000) (disch := first | omega | assumption | exact Nat.le_of_ble_eq_true rfl) only [go_sem, ↓mwp_block, simprocAttr, rx, hc1, hc2])
        (refine st_alloc S ?_; clear S; intro q h S; (try simp only [splice_cons, splice_nil, List.set_cons_zero, List.set_cons_succ, Nat.zero_add, Nat.reduceAdd, List.cons_append, List.nil_append] at S); ((try clear F); have F := S.all; (try simp only [all_cons, all_nil, says_cell, and_true] at F)))
        have S := S.cellOwn (enc := bEnc) (sz := 1) (ys := []) bEnc_len rfl (by decide)
        try refine chk_any S.tl ?_
        (try simp (maxSteps := 1000000) (disch := first | omega | assumption | exact Nat.le_of_ble_eq_true rfl) only [go_sem, ↓mwp_block, simprocAttr])
        refine st_append (bytes := 1) (xs := []) (ys := f.bs) bEnc_len (by omega) bEnc_plain rfl S rfl (src_arr bEnc_len (harr S.tl) rfl) (by simp; omega) (by simp; omega) ?_
        clear S F
        intro v' h S
        simp only [List.nil_append] at S
        obtain ⟨B1, e1, rfl⟩ := S.sl
        try refine chk_any S.tl ?_
        (try simp (maxSteps := 1000000) (disch := first | omega | assumption | exact Nat.le_of_ble_eq_true rfl) only [go_sem, ↓mwp_block, simprocAttr])
        refine st_append (bytes := 1) (xs := f.bs) (ys := bs) bEnc_len (by omega) bEnc_plain rfl S rfl (src_arr bEnc_len (ha _ S.tl.tl.dropL) rfl) (by omega) (by omega) ?_
        clear S
        intro v' h S
        obtain ⟨B2, e2, rfl⟩ := S.sl
        try refine chk_any S.tl ?_
        (try simp (maxSteps := 1000000) (disch := first | omega | assumption | exact Nat.le_of_ble_eq_true rfl) only [go_sem, ↓mwp_block, simprocAttr])
        refine st_store S.p1 rfl rfl (by rw [rcells_len h8]; omega) ?_
        clear S
        intro h S
        (try simp (maxSteps := 1000000) (disch := first | omega | assumption | exact Nat.le_of_ble_eq_true rfl) only [go_sem, ↓mwp_block, simprocAttr])
        exact hK _ _ (last2 _ _ _ _ hbu.symm S)
      · have hbu : burnF D.fuse = D.fuse := by rw [burnF, if_neg hp]
        (try simp (maxSteps := 1000000) (disch := first | omega | assumption | exact Nat.le_of_ble_eq_true rfl) only [go_sem, ↓mwp_block, simprocAttr, hd, F, hfu])
        rw [hd] at S
        refine draw_st S ?_
        have rx : ∀ off K t, readT (fun h' => St h0 h' _) (fun h' => rd1 h' (.pointer (some ⟨w, off, none⟩))) K t = bindT ((rcells D.cap zs D.fuse false)[off]?) K ⟨⟩ := fun off K t => reads_of S (fun h' s => st_rd1 s)
        (try simp (maxSteps := 1000000) (disch := first | omega | assumption | exact Nat.le_of_ble_eq_true rfl) only [go_sem, ↓mwp_block, simprocAttr, rx, hc1, hc2])
        (refine st_alloc S ?_; clear S; intro q h S; (try simp only [splice_cons, splice_nil, List.set_cons_zero, List.set_cons_succ, Nat.zero_add, Nat.reduceAdd, List.cons_append, List.nil_append] at S); ((try clear F); have F := S.all; (try simp only [all_cons, all_nil, says_cell, and_true] at F)))
        have S := S.cellOwn (enc := bEnc) (sz := 1) (ys := []) bEnc_len rfl (by decide)
        try refine chk_any S.tl ?_
        (try simp (maxSteps := 1000000) (disch := first | omega | assumption | exact Nat.le_of_ble_eq_true rfl) only [go_sem, ↓mwp_block, simprocAttr])
        refine st_append (bytes := 1) (xs := []) (ys := f.bs) bEnc_len (by omega) bEnc_plain rfl S rfl (src_arr bEnc_len (harr S.tl) rfl) (by simp; omega) (by simp; omega) ?_
        clear S F
        intro v' h S
        simp only [List.nil_append] at S
        obtain ⟨B1, e1, rfl⟩ := S.sl
        try refine chk_any S.tl ?_
        (try simp (maxSteps := 1000000) (disch := first | omega | assumption | exact Nat.le_of_ble_eq_true rfl) only [go_sem, ↓mwp_block, simprocAttr])
        refine st_append (bytes := 1) (xs := f.bs) (ys := bs) bEnc_len (by omega) bEnc_plain rfl S rfl (src_arr bEnc_len (ha _ S.tl.tl.dropL) rfl) (by omega) (by omega) ?_
        clear S
        intro v' h S
        obtain ⟨B2, e2, rfl⟩ := S.sl
        try refine chk_any S.tl ?_
        (try simp (maxSteps := 1000000) (disch := first | omega | assumption | exact Nat.le_of_ble_eq_true rfl) only [go_sem, ↓mwp_block, simprocAttr])
        refine st_store S.p1 rfl rfl (by rw [rcells_len h8]; omega) ?_
        clear S
        intro h S
        (try simp (maxSteps := 1000000) (disch := first | omega | assumption | exact Nat.le_of_ble_eq_true rfl) only [go_sem, ↓mwp_block, simprocAttr])
        exact hK _ _ (last2 _ _ _ _ hbu.symm S)
  · (try simp (maxSteps := 1000000) (disch := first | omega | assumption | exact Nat.le_of_ble_eq_true rfl) only [go_sem, ↓mwp_block, simprocAttr, hd])
    refine hK _ _ ?_
    have ha : askE D n = 6 := by simp only [askE, hd, if_true]
    simp only [appendD, ha, ne_eq, show ¬ ((6 : Int) = 0) by decide, not_false_eq_true, if_true]
    exact ⟨trivial, S0⟩
end Go.Proofs.Ytnjjdpeglkiifaa.MX

/- The reference's disk: rename. -/
namespace Go.Proofs.Ytnjjdpeglkiifaa.MX
open Go Go.Proofs
set_option linter.unusedSimpArgs false
set_option linter.unusedVariables false

theorem row_move {α : Type} {F : α → HP} {h0 h : Heap} {l : List HP} {X : HP} {zs : List α} {a b : Nat} {z0 : α} (hab : a ≠ b) (ha : a < zs.length) (hb : b < zs.length) (Z : ∀ {l : List HP}, St h0 h l → St h0 h (F z0 :: l)) (S : St h0 h (X :: (zs.map F ++ l))) :
    St h0 h (X :: (((zs.set b zs[a]).set a z0).map F ++ l)) := by
  have S1 := row_pick ha S
  have S2 : St h0 h (F z0 :: X :: ((zs.take a ++ zs.drop (a + 1)).map F ++ (F zs[a] :: l))) := Z (S1.perm ((List.Perm.swap _ _ _).trans (List.Perm.cons X List.perm_middle.symm)))
  have S3 := row_put ha S2
  have S4 := row_swap (z := zs[a]) (n := b) (zs := zs.set a z0) (by simpa using hb) (S3.perm (List.Perm.cons X List.perm_middle))
  rwa [List.set_comm _ _ hab] at S4
theorem rcells_part {cap fuse : Int} {lost : Bool} {zs : List RSlot} {n : Nat} (hn : n < zs.length) : ((rcells cap zs fuse lost).drop (1 + n * 3)).take 3 = rcell zs[n] := by
  have h1 := flat_get rcell_len zs [.int .i64 fuse, .bool lost] n hn
  rw [rcells, Nat.add_comm 1, List.drop_succ_cons]
  exact h1

set_option maxRecDepth 4000 in
set_option maxHeartbeats 8000000 in
theorem RAct3_ok (a b : Int) (v : Value) {h0 h : Heap} {l : List HP} {w : Nat} {D : Dk} (S : St h0 h (refA w D :: l)) (ok : D.ok) :
    CallsH Try.prog 49 [.pointer (some ⟨w, 0, none⟩), .int .i64 3, .int .i64 a, .int .i64 b, v] h fun v h' => v = .int .i64 (renameD D a b).2 ∧ St h0 h' (refA w (renameD D a b).1 :: l) := by
  have S0 := S
  obtain ⟨zs, hz, h8, S⟩ := refA_open.1 S
  have hlo := rcells_lost (cap := D.cap) (fuse := D.fuse) (lost := D.lost) h8
  have hfu := rcells_fuse (cap := D.cap) (fuse := D.fuse) (lost := D.lost) h8
  obtain ⟨hf1, hf2⟩ := ok.fuse
  (refine enterK c_recoupref01_Disk_Act (Nat.le_of_ble_eq_true rfl) fun K hK => ?_; (try simp (maxSteps := 1000000) (disch := first | omega | assumption | exact Nat.le_of_ble_eq_true rfl) only [go_sem, ↓mwp_block, simprocAttr, ir_recoupref01_Disk_Act]))
  ((try clear F); have F := S.all; (try simp only [all_cons, all_nil, says_cell, and_true] at F))
  (try simp (maxSteps := 1000000) (disch := first | omega | assumption | exact Nat.le_of_ble_eq_true rfl) only [go_sem, ↓mwp_block, simprocAttr, F, hlo])
  cases hd : D.lost
  · have hask : ∀ n, ¬ (0 ≤ n ∧ n < 8) → askE D n = 1 := fun n hn => by simp only [askE, hd, Bool.false_eq_true, if_false]; rw [if_neg hn]
    have hask0 : ∀ n, (0 ≤ n ∧ n < 8) → askE D n = 0 := fun n hn => by simp only [askE, hd, Bool.false_eq_true, if_false]; rw [if_pos hn]
    have bada : ¬ (0 ≤ a ∧ a < 8) → renameD D a b = (D, 1) := fun hn => by simp [renameD, hask a hn]
    have badb : (0 ≤ a ∧ a < 8) → ¬ (0 ≤ b ∧ b < 8) → renameD D a b = (D, 1) := fun h1 hn => by simp [renameD, hask b hn, hask0 a h1]
    by_cases hn0 : a < 0
    · (try simp (maxSteps := 1000000) (disch := first | omega | assumption | exact Nat.le_of_ble_eq_true rfl) only [go_sem, ↓mwp_block, simprocAttr, hd])
      refine hK _ _ ?_
      rw [bada (by omega)]
      exact ⟨rfl, S0⟩
    by_cases hn1 : 7 < a
    · (try simp (maxSteps := 1000000) (disch := first | omega | assumption | exact Nat.le_of_ble_eq_true rfl) only [go_sem, ↓mwp_block, simprocAttr, hd])
      refine hK _ _ ?_
      rw [bada (by omega)]
      exact ⟨rfl, S0⟩
    by_cases hb0 : b < 0
    · (try simp (maxSteps := 1000000) (disch := first | omega | assumption | exact Nat.le_of_ble_eq_true rfl) only [go_sem, ↓mwp_block, simprocAttr, hd])
      refine hK _ _ ?_
      rw [badb (by omega) (by omega)]
      exact ⟨rfl, S0⟩
    by_cases hb1 : 7 < b
    · (try simp (maxSteps := 1000000) (disch := first | omega | assumption | exact Nat.le_of_ble_eq_true rfl) only [go_sem, ↓mwp_block, simprocAttr, hd])
      refine hK _ _ ?_
      rw [badb (by omega) (by omega)]
      exact ⟨rfl, S0⟩
    have hn : 0 ≤ a ∧ a < 8 := by omega
    have hae := hask0 a hn
    have hbe := hask0 b (by omega)
    have hlt : a.toNat < zs.length := by omega
    have hltb : b.toNat < zs.length := by omega
    have hc0 := rcells_at (cap := D.cap) (fuse := D.fuse) (lost := D.lost) (k := 0) hlt (by omega)
    have hc1 := fun fu lo => rcells_at (cap := D.cap) (fuse := fu) (lost := lo) (k := 1) hlt (by omega)
    have hc2 := fun fu lo => rcells_at (cap := D.cap) (fuse := fu) (lost := lo) (k := 2) hlt (by omega)
    have hpt := fun fu lo => rcells_part (cap := D.cap) (fuse := fu) (lost := lo) hlt
    have hfo := rsnd hz hn hlt
    have hmv := fun (h : Heap) (X : HP) (hab : a.toNat ≠ b.toNat) (S : St h0 h (X :: (zs.map rslotA ++ l))) => row_move (z0 := (Value.slice none 0 0, none)) hab hlt hltb (fun S => S.nilS) S
    rw [hd] at hc0 hfu
    have Sp := row_pick hlt S
    generalize hzz : zs[a.toNat] = z at hc0 hc1 hc2 hpt hfo hmv Sp
    obtain ⟨s, o⟩ := z
    simp only [rcell, List.getElem?_cons_succ, List.getElem?_cons_zero, Nat.add_zero] at hc0 hc1 hc2 hfo hpt
    cases o with
    | none =>
      simp only [Option.isSome_none] at hc0
      (try simp (maxSteps := 1000000) (disch := first | omega | assumption | exact Nat.le_of_ble_eq_true rfl) only [go_sem, ↓mwp_block, simprocAttr, hd, F, hc0])
      refine hK _ _ ?_
      simp only [renameD, hae, hbe, hfo, ne_eq, not_true_eq_false, if_false, Option.isNone_none, if_true]
      exact ⟨trivial, S0⟩
    | some f =>
      obtain ⟨B, e, hs⟩ := St.sl (xs := f.bs) Sp
      simp only at hs
      subst hs
      simp only [Option.isSome_some, safeF] at hc0 hc2 hpt
      have hsafe := ok.safe f (by rw [← hz]; exact List.mem_map.2 ⟨zs[a.toNat], List.getElem_mem hlt, by rw [hzz]⟩)
      (try simp (maxSteps := 1000000) (disch := first | omega | assumption | exact Nat.le_of_ble_eq_true rfl) only [go_sem, ↓mwp_block, simprocAttr, hd, F, hc0])
      refine draw_eq ?_
      by_cases hab : a = b
      · (try simp (maxSteps := 1000000) (disch := first | omega | assumption | exact Nat.le_of_ble_eq_true rfl) only [go_sem, ↓mwp_block, simprocAttr, hd, F, hc1, hc2])
        refine hK _ _ ?_
        simp only [renameD, hae, hbe, ne_eq, not_true_eq_false, if_false, hfo, Option.isNone_some, Bool.false_eq_true, Option.getD_some, if_pos (Or.inl hab : a = b ∨ f.safe < f.bs.length)]
        exact ⟨trivial, S0⟩
      by_cases hsf : f.safe < f.bs.length
      · (try simp (maxSteps := 1000000) (disch := first | omega | assumption | exact Nat.le_of_ble_eq_true rfl) only [go_sem, ↓mwp_block, simprocAttr, hd, F, hc1, hc2])
        refine hK _ _ ?_
        simp only [renameD, hae, hbe, ne_eq, not_true_eq_false, if_false, hfo, Option.isNone_some, Bool.false_eq_true, Option.getD_some, if_pos (Or.inr hsf : a = b ∨ f.safe < f.bs.length)]
        exact ⟨trivial, S0⟩
      have hno : ¬ (a = b ∨ f.safe < f.bs.length) := by omega
      have hab' : a.toNat ≠ b.toNat := by omega
      (try simp (maxSteps := 1000000) (disch := first | omega | assumption | exact Nat.le_of_ble_eq_true rfl) only [go_sem, ↓mwp_block, simprocAttr, hd, F, hc1, hc2, hfu])
      by_cases hz0 : D.fuse = 0
      · (try simp (maxSteps := 1000000) (disch := first | omega | assumption | exact Nat.le_of_ble_eq_true rfl) only [go_sem, ↓mwp_block, simprocAttr])
        refine st_store S rfl rfl (by rw [rcells_len h8]; omega) ?_
        clear S F
        intro h S
        rw [rcells_setL h8] at S
        (try simp (maxSteps := 1000000) (disch := first | omega | assumption | exact Nat.le_of_ble_eq_true rfl) only [go_sem, ↓mwp_block, simprocAttr])
        refine hK _ _ ?_
        simp only [renameD, hae, hbe, ne_eq, not_true_eq_false, if_false, hfo, Option.isNone_some, Bool.false_eq_true, Option.getD_some, if_neg hno, if_pos hz0]
        exact ⟨trivial, refA_open.2 ⟨zs, hz, h8, S⟩⟩
      · have last : ∀ (fu : Int) (h : Heap), fu = burnF D.fuse → St h0 h (cellA w (splice (rcells D.cap (zs.set b.toNat (.slice B f.bs.length e, some f)) fu D.lost) (1 + a.toNat * 3) [.bool false, .slice none 0 0, .int .i64 0]) 132 :: (zs.map rslotA ++ l)) → (Value.int .i64 0 = .int .i64 (renameD D a b).2 ∧ St h0 h (refA w (renameD D a b).1 :: l)) := by
          intro fu h hfe S
          have hset := rcells_set (cap := D.cap) (fuse := fu) (lost := D.lost) (zs := zs.set b.toNat (.slice B f.bs.length e, some f)) (n := a.toNat) (by simpa using hlt) (.slice none 0 0, none)
          simp only [rcell, Option.isSome_none, safeF] at hset
          rw [show (((0 : Nat) : Int)) = 0 from rfl] at hset
          rw [hset] at S
          have S := hmv _ _ hab' S
          simp only [renameD, hae, hbe, ne_eq, not_true_eq_false, if_false, hfo, Option.isNone_some, Bool.false_eq_true, Option.getD_some, if_neg hno, if_neg hz0]
          refine ⟨trivial, refA_open.2 ⟨_, ?_, ?_, by rw [← hfe]; exact S⟩⟩
          · rw [List.map_set, List.map_set, hz]
          · simpa using h8
        have hsb := fun fu lo => rcells_set (cap := D.cap) (fuse := fu) (lost := lo) hltb (.slice B f.bs.length e, some f)
        simp only [rcell, Option.isSome_some, safeF] at hsb
        by_cases hp : 0 < D.fuse
        · (try simp (maxSteps := 1000000) (disch := first | omega | assumption | exact Nat.le_of_ble_eq_true rfl) only [go_sem, ↓mwp_block, simprocAttr, hd, F, hfu])
          refine st_store S rfl rfl (by rw [rcells_len h8]; omega) ?_
          clear S F
          intro h S
          rw [rcells_setF h8] at S
          have hbu : burnF D.fuse = D.fuse - 1 := by rw [burnF, if_pos hp]
          clear hfu hlo
          generalize hfe : D.fuse - 1 = fu at S hbu
          have hrd : rdN h w (1 + a.toNat * 3) 3 = some [Value.bool true, .slice B f.bs.length e, .int .i64 f.safe] := by rw [st_rdN S (by rw [rcells_len h8]; omega), hpt]
          (try simp (maxSteps := 1000000) (disch := first | omega | assumption | exact Nat.le_of_ble_eq_true rfl) only [go_sem, ↓mwp_block, simprocAttr])
          refine draw_eq ?_
          (try simp (maxSteps := 1000000) (disch := first | omega | assumption | exact Nat.le_of_ble_eq_true rfl) only [go_sem, ↓mwp_block, simprocAttr, hrd])
          refine st_store S rfl rfl (by rw [rcells_len h8]; omega) ?_
          clear S
          intro h S
          rw [hsb] at S
          (try simp (maxSteps := 1000000) (disch := first | omega | assumption | exact Nat.le_of_ble_eq_true rfl) only [go_sem, ↓mwp_block, simprocAttr])
          refine st_store S rfl rfl (by rw [rcells_len (by simpa using h8)]; omega) ?_
          clear S
          intro h S
          (try simp (maxSteps := 1000000) (disch := first | omega | assumption | exact Nat.le_of_ble_eq_true rfl) only [go_sem, ↓mwp_block, simprocAttr])
          exact hK _ _ (last _ h hbu.symm S)
        · have hbu : burnF D.fuse = D.fuse := by rw [burnF, if_neg hp]
          have hrd : rdN h w (1 + a.toNat * 3) 3 = some [Value.bool true, .slice B f.bs.length e, .int .i64 f.safe] := by rw [st_rdN S (by rw [rcells_len h8]; omega), hpt]
          (try simp (maxSteps := 1000000) (disch := first | omega | assumption | exact Nat.le_of_ble_eq_true rfl) only [go_sem, ↓mwp_block, simprocAttr, hd, F, hfu])
          refine draw_eq ?_
          (try simp (maxSteps := 1000000) (disch := first | omega | assumption | exact Nat.le_of_ble_eq_true rfl) only [go_sem, ↓mwp_block, simprocAttr, hrd])
          refine st_store S rfl rfl (by rw [rcells_len h8]; omega) ?_
          clear S F
          intro h S
          rw [hsb] at S
          (try simp (maxSteps := 1000000) (disch := first | omega | assumption | exact Nat.le_of_ble_eq_true rfl) only [go_sem, ↓mwp_block, simprocAttr])
          refine st_store S rfl rfl (by rw [rcells_len (by simpa using h8)]; omega) ?_
          clear S
          intro h S
          (try simp (maxSteps := 1000000) (disch := first | omega | assumption | exact Nat.le_of_ble_eq_true rfl) only [go_sem, ↓mwp_block, simprocAttr])
          exact hK _ _ (last _ h hbu.symm S)
  · (try simp (maxSteps := 1000000) (disch := first | omega | assumption | exact Nat.le_of_ble_eq_true rfl) only [go_sem, ↓mwp_block, simprocAttr, hd])
    refine hK _ _ ?_
    have ha : askE D a = 6 := by simp only [askE, hd, if_true]
    simp only [renameD, ha, ne_eq, show ¬ ((6 : Int) = 0) by decide, not_false_eq_true, if_true]
    exact ⟨trivial, S0⟩
end Go.Proofs.Ytnjjdpeglkiifaa.MX

/- An act on the program's disk (law01.do). -/
namespace Go.Proofs.Ytnjjdpeglkiifaa.MX
open Go Go.Proofs
set_option linter.unusedSimpArgs false
set_option linter.unusedVariables false

def DAct.ks (x : DAct) : List Int := [x.k0, x.k1, x.k2, x.k3, x.k4, x.k5, x.k6, x.k7]
/-- What an act makes of a disk, and its answer. -/
def actD (D : Dk) (x : DAct) (bs : List UInt8) : Dk × Int :=
  if x.kind = 0 then appendD D x.a bs
  else if x.kind = 1 then syncD D x.a
  else if x.kind = 2 then cutD D x.a x.b
  else if x.kind = 3 then renameD D x.a x.b
  else if x.kind = 4 then removeD D x.a
  else if x.kind = 5 then fuseD D x.b
  else (restartD D x.ks, 0)
end Go.Proofs.Ytnjjdpeglkiifaa.MX
