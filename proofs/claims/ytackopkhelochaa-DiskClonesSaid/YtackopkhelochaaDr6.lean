/- The reference's disk: append. -/
import Derived.Test.YtackopkhelochaaDr5
namespace Go.Proofs.Ytackopkhelochaa.MX
open Go Go.Proofs
set_option linter.unusedSimpArgs false
set_option linter.unusedVariables false

set_option maxRecDepth 4000 in
set_option maxHeartbeats 8000000 in
theorem RAct0_ok (n m : Int) {h0 h : Heap} {l : List HP} {w : Nat} {D : Dk} {A : Option Addr} {c : Nat} {bs : List UInt8} (S : St h0 h (refA w D :: l)) (ok : D.ok) (ha : ∀ h', St h0 h' l → Arr bEnc 1 h' A bs) (hc : bs.length ≤ c) (hb : bs.length < 9223372036854775808) :
    CallsH Try.prog 46 [.pointer (some ⟨w, 0, none⟩), .int .i64 0, .int .i64 n, .int .i64 m, .slice A bs.length c] h fun v h' => v = .int .i64 (appendD D n bs).2 ∧ St h0 h' (refA w (appendD D n bs).1 :: l) := by
  have S0 := S
  obtain ⟨zs, hz, h8, S⟩ := refA_open.1 S
  have hlo := rcells_lost (cap := D.cap) (fuse := D.fuse) (lost := D.lost) h8
  have hfu := rcells_fuse (cap := D.cap) (fuse := D.fuse) (lost := D.lost) h8
  obtain ⟨hf1, hf2⟩ := ok.fuse
  (refine enterK c_recoupref01_Disk_Act (Nat.le_of_ble_eq_true rfl) fun K hK => ?_; (try simp (maxSteps := 1000000) (disch := first | omega | assumption | exact Nat.le_of_ble_eq_true rfl) only [go_sem, ↓mwp_block, simprocAttr, ir_recoupref01_Disk_Act]))
  ((try clear F); have F := S.all; (try simp only [all_cons, all_nil, says_cell, and_true] at F))
  (try simp (maxSteps := 1000000) (disch := first | omega | assumption | exact Nat.le_of_ble_eq_true rfl) only [go_sem, ↓mwp_block, simprocAttr, F, hlo])
  cases hd : D.lost
  · by_cases hn0 : n < 0
    · (try simp (maxSteps := 1000000) (disch := first | omega | assumption | exact Nat.le_of_ble_eq_true rfl) only [go_sem, ↓mwp_block, simprocAttr, hd])
      refine hK _ _ ?_
      have ha : askE D n = 1 := by simp only [askE, hd, Bool.false_eq_true, if_false]; rw [if_neg (by omega)]
      simp only [appendD, ha, ne_eq, show ¬ ((1 : Int) = 0) by decide, not_false_eq_true, if_true]
      exact ⟨trivial, S0⟩
    by_cases hn1 : 7 < n
    · (try simp (maxSteps := 1000000) (disch := first | omega | assumption | exact Nat.le_of_ble_eq_true rfl) only [go_sem, ↓mwp_block, simprocAttr, hd])
      refine hK _ _ ?_
      have ha : askE D n = 1 := by simp only [askE, hd, Bool.false_eq_true, if_false]; rw [if_neg (by omega)]
      simp only [appendD, ha, ne_eq, show ¬ ((1 : Int) = 0) by decide, not_false_eq_true, if_true]
      exact ⟨trivial, S0⟩
    have hn : 0 ≤ n ∧ n < 8 := by omega
    have hae : askE D n = 0 := by simp only [askE, hd, Bool.false_eq_true, if_false]; rw [if_pos hn]
    have hlt : n.toNat < zs.length := by omega
    (try simp (maxSteps := 1000000) (disch := first | omega | assumption | exact Nat.le_of_ble_eq_true rfl) only [go_sem, ↓mwp_block, simprocAttr, hd, F])
    refine call_intro (RRoom_ok S0 ok) ?_
    rintro _ _ ⟨rfl, rfl⟩
    by_cases hr : (bs.length : Int) > D.cap - used D.fs
    · (try simp (maxSteps := 1000000) (disch := first | omega | assumption | exact Nat.le_of_ble_eq_true rfl) only [go_sem, ↓mwp_block, simprocAttr])
      refine hK _ _ ?_
      simp only [appendD, hae, ne_eq, not_true_eq_false, if_false, if_pos hr]
      exact ⟨trivial, S0⟩
    have hc1 := fun fu lo => rcells_at (cap := D.cap) (fuse := fu) (lost := lo) (k := 1) hlt (by omega)
    have hc2 := fun fu lo => rcells_at (cap := D.cap) (fuse := fu) (lost := lo) (k := 2) hlt (by omega)
    have hfo := rsnd hz hn hlt
    have hsz := used_get (fs := D.fs) (k := n.toNat) (by have := ok.len; omega)
    have hfs : D.fs[n.toNat]'(by have := ok.len; omega) = (zs[n.toNat]).2 := by
      have : D.fs[n.toNat]? = (zs.map Prod.snd)[n.toNat]? := by rw [hz]
      rw [List.getElem?_map, List.getElem?_eq_getElem (by have := ok.len; omega), List.getElem?_eq_getElem hlt] at this
      exact Option.some.inj this
    rw [hfs] at hsz
    rw [hd] at hfu
    generalize hzz : zs[n.toNat] = z at hc1 hc2 hfo hsz
    obtain ⟨s, o⟩ := z
    simp only [rcell, List.getElem?_cons_succ, List.getElem?_cons_zero] at hc1 hc2 hfo hsz
    obtain ⟨f, hgf⟩ : ∃ f, (fileOf D n).getD ⟨[], 0⟩ = f := ⟨_, rfl⟩
    have hbf : bsF o = f.bs := by rw [← hgf, hfo]; cases o <;> rfl
    have hsf : safeF o = f.safe := by rw [← hgf, hfo]; cases o <;> rfl
    have hzf : szF o = f.bs.length := by rw [← hbf]; cases o <;> rfl
    rw [hsf] at hc2
    rw [hzf] at hsz
    obtain ⟨B, e, hs, hle⟩ : ∃ B e, s = .slice B f.bs.length e ∧ f.bs.length ≤ e := by
      have := row_pick hlt S
      rw [hzz, rslotA, hbf] at this
      obtain ⟨B, e, hs⟩ := St.sl (xs := f.bs) this
      simp only at hs
      subst hs
      exact ⟨B, e, rfl, ((St.own (enc := bEnc) (sz := 1) (T := 5) (xs := f.bs) (v := .slice B f.bs.length e) this).arr bEnc_len).2.2⟩
    subst hs
    have hro := ok.room
    have hcp := ok.cap
    have hq : ((bs.length : Int)).tdiv 2 = ((bs.length / 2 : Nat) : Int) := by rw [Int.tdiv_eq_ediv_of_nonneg (by omega)]; omega
    have last : ∀ (fu : Int) (lo : Bool) (ys : List UInt8) (h : Heap) (B2 : Option Addr) (e2 : Nat), St h0 h (cellA w (splice (rcells D.cap zs fu lo) (1 + n.toNat * 3) [.bool true, .slice B2 (f.bs ++ ys).length e2, .int .i64 f.safe]) 116 :: ownA bEnc 1 5 (.slice B2 (f.bs ++ ys).length e2) (f.bs ++ ys) :: (zs.map rslotA ++ l)) →
        St h0 h (refA w ⟨D.cap, D.fs.set n.toNat (some ⟨f.bs ++ ys, f.safe⟩), fu, lo⟩ :: l) := by
      intro fu lo ys h B2 e2 S
      have hset := rcells_set (cap := D.cap) (fuse := fu) (lost := lo) hlt (.slice B2 (f.bs ++ ys).length e2, some ⟨f.bs ++ ys, f.safe⟩)
      simp only [rcell, Option.isSome_some, safeF] at hset
      rw [hset] at S
      have S := row_swap (F := rslotA) (z := (Value.slice B2 (f.bs ++ ys).length e2, some ⟨f.bs ++ ys, f.safe⟩)) hlt S
      refine refA_open.2 ⟨zs.set n.toNat (.slice B2 (f.bs ++ ys).length e2, some ⟨f.bs ++ ys, f.safe⟩), ?_, by simpa using h8, S⟩
      rw [List.map_set, hz]
    have harr : ∀ {h : Heap} {fu : Int} {lo : Bool}, St h0 h (cellA w (rcells D.cap zs fu lo) 116 :: (zs.map rslotA ++ l)) → Arr bEnc 1 h B f.bs := by
      intro h fu lo S
      have := row_pick hlt S
      rw [hzz, rslotA, hbf] at this
      exact St.arr this bEnc_len
    clear F
    ((try clear F); have F := S.all; (try simp only [all_cons, all_nil, says_cell, and_true] at F))
    (try simp (maxSteps := 1000000) (disch := first | omega | assumption | exact Nat.le_of_ble_eq_true rfl) only [go_sem, ↓mwp_block, simprocAttr, hd, F, hfu])
    refine draw_eq ?_
    (try simp (maxSteps := 1000000) (disch := first | omega | assumption | exact Nat.le_of_ble_eq_true rfl) only [go_sem, ↓mwp_block, simprocAttr, hd, F, hfu])
    by_cases hz0 : D.fuse = 0
    · (try simp (maxSteps := 1000000) (disch := first | omega | assumption | exact Nat.le_of_ble_eq_true rfl) only [go_sem, ↓mwp_block, simprocAttr])
      refine st_store S rfl rfl (by rw [rcells_len h8]; omega) ?_
      clear S F
      intro h S
      rw [rcells_setL h8] at S
      (try simp (maxSteps := 1000000) (disch := first | omega | assumption | exact Nat.le_of_ble_eq_true rfl) only [go_sem, ↓mwp_block, simprocAttr])
      refine draw_st S ?_
      have rx : ∀ off K t, readT (fun h' => St h0 h' _) (fun h' => rd1 h' (.pointer (some ⟨w, off, none⟩))) K t = bindT ((rcells D.cap zs D.fuse true)[off]?) K ⟨⟩ := fun off K t => reads_of S (fun h' s => st_rd1 s)
      (try simp (maxSteps := 1000000) (disch := first | omega | assumption | exact Nat.le_of_ble_eq_true rfl) only [go_sem, ↓mwp_block, simprocAttr, rx, hc1, hc2, hq])
      (refine st_alloc S ?_; clear S; intro q h S; (try simp only [splice_cons, splice_nil, List.set_cons_zero, List.set_cons_succ, Nat.zero_add, Nat.reduceAdd, List.cons_append, List.nil_append] at S); ((try clear F); have F := S.all; (try simp only [all_cons, all_nil, says_cell, and_true] at F)))
      have S := S.cellOwn (enc := bEnc) (sz := 1) (ys := []) bEnc_len rfl (by decide)
      refine chk_any S.tl ?_
      (try simp (maxSteps := 1000000) (disch := first | omega | assumption | exact Nat.le_of_ble_eq_true rfl) only [go_sem, ↓mwp_block, simprocAttr])
      refine st_append (bytes := 1) (xs := []) (ys := f.bs) bEnc_len (by omega) bEnc_plain rfl S rfl (src_arr bEnc_len (harr S.tl) rfl) (by simp; omega) (by simp; omega) ?_
      clear S F
      intro v' h S
      simp only [List.nil_append] at S
      obtain ⟨B1, e1, rfl⟩ := S.sl
      refine chk_any S.tl ?_
      (try simp (maxSteps := 1000000) (disch := first | omega | assumption | exact Nat.le_of_ble_eq_true rfl) only [go_sem, ↓mwp_block, simprocAttr])
      refine st_append (bytes := 1) (xs := f.bs) (ys := bs.take (bs.length / 2)) bEnc_len (by omega) bEnc_plain rfl S (by simp [srcLen]; omega) (src_arr bEnc_len (arr_take (ha _ S.tl.tl.dropL) _) (by simp; omega)) (by simp; omega) (by simp; omega) ?_
      clear S
      intro v' h S
      obtain ⟨B2, e2, rfl⟩ := S.sl
      refine chk_any S.tl ?_
      (try simp (maxSteps := 1000000) (disch := first | omega | assumption | exact Nat.le_of_ble_eq_true rfl) only [go_sem, ↓mwp_block, simprocAttr])
      refine st_store S.p1 rfl rfl (by rw [rcells_len h8]; omega) ?_
      clear S
      intro h S
      (try simp (maxSteps := 1000000) (disch := first | omega | assumption | exact Nat.le_of_ble_eq_true rfl) only [go_sem, ↓mwp_block, simprocAttr])
      refine hK _ _ ?_
      simp only [appendD, hae, ne_eq, not_true_eq_false, if_false, if_neg hr, if_pos hz0, hgf]
      exact ⟨trivial, last _ _ _ _ _ _ S⟩
    · have last2 : ∀ (fu : Int) (h : Heap) (B2 : Option Addr) (e2 : Nat), fu = burnF D.fuse → St h0 h (cellA w (splice (rcells D.cap zs fu false) (1 + n.toNat * 3) [.bool true, .slice B2 (f.bs ++ bs).length e2, .int .i64 f.safe]) 116 :: ownA bEnc 1 5 (.slice B2 (f.bs ++ bs).length e2) (f.bs ++ bs) :: (zs.map rslotA ++ l)) → (Value.int .i64 0 = .int .i64 (appendD D n bs).2 ∧ St h0 h (refA w (appendD D n bs).1 :: l)) := by
        intro fu h B2 e2 hfe S
        have := last _ _ _ _ _ _ S
        simp only [appendD, hae, ne_eq, not_true_eq_false, if_false, if_neg hr, if_neg hz0, hgf]
        refine ⟨trivial, ?_⟩
        rw [← hfe, hd]
        exact this
      by_cases hp : 0 < D.fuse
      · (try simp (maxSteps := 1000000) (disch := first | omega | assumption | exact Nat.le_of_ble_eq_true rfl) only [go_sem, ↓mwp_block, simprocAttr, hd, F, hfu])
        refine st_store S rfl rfl (by rw [rcells_len h8]; omega) ?_
        clear S F
        intro h S
        rw [rcells_setF h8] at S
        have hbu : burnF D.fuse = D.fuse - 1 := by rw [burnF, if_pos hp]
        (try simp (maxSteps := 1000000) (disch := first | omega | assumption | exact Nat.le_of_ble_eq_true rfl) only [go_sem, ↓mwp_block, simprocAttr])
        rw [hd] at S
        clear hfu hlo
        generalize hfe : D.fuse - 1 = fu at S hbu
        refine draw_st S ?_
        have rx : ∀ off K t, readT (fun h' => St h0 h' _) (fun h' => rd1 h' (.pointer (some ⟨w, off, none⟩))) K t = bindT ((rcells D.cap zs fu false)[off]?) K ⟨⟩ := fun off K t => reads_of S (fun h' s => st_rd1 s)
        (try simp (maxSteps := 1000000) (disch := first | omega | assumption | exact Nat.le_of_ble_eq_true rfl) only [go_sem, ↓mwp_block, simprocAttr, rx, hc1, hc2])
        (refine st_alloc S ?_; clear S; intro q h S; (try simp only [splice_cons, splice_nil, List.set_cons_zero, List.set_cons_succ, Nat.zero_add, Nat.reduceAdd, List.cons_append, List.nil_append] at S); ((try clear F); have F := S.all; (try simp only [all_cons, all_nil, says_cell, and_true] at F)))
        have S := S.cellOwn (enc := bEnc) (sz := 1) (ys := []) bEnc_len rfl (by decide)
        refine chk_any S.tl ?_
        (try simp (maxSteps := 1000000) (disch := first | omega | assumption | exact Nat.le_of_ble_eq_true rfl) only [go_sem, ↓mwp_block, simprocAttr])
        refine st_append (bytes := 1) (xs := []) (ys := f.bs) bEnc_len (by omega) bEnc_plain rfl S rfl (src_arr bEnc_len (harr S.tl) rfl) (by simp; omega) (by simp; omega) ?_
        clear S F
        intro v' h S
        simp only [List.nil_append] at S
        obtain ⟨B1, e1, rfl⟩ := S.sl
        refine chk_any S.tl ?_
        (try simp (maxSteps := 1000000) (disch := first | omega | assumption | exact Nat.le_of_ble_eq_true rfl) only [go_sem, ↓mwp_block, simprocAttr])
        refine st_append (bytes := 1) (xs := f.bs) (ys := bs) bEnc_len (by omega) bEnc_plain rfl S rfl (src_arr bEnc_len (ha _ S.tl.tl.dropL) rfl) (by omega) (by omega) ?_
        clear S
        intro v' h S
        obtain ⟨B2, e2, rfl⟩ := S.sl
        refine chk_any S.tl ?_
        (try simp (maxSteps := 1000000) (disch := first | omega | assumption | exact Nat.le_of_ble_eq_true rfl) only [go_sem, ↓mwp_block, simprocAttr])
        refine st_store S.p1 rfl rfl (by rw [rcells_len h8]; omega) ?_
        clear S
        intro h S
        (try simp (maxSteps := 1000000) (disch := first | omega | assumption | exact Nat.le_of_ble_eq_true rfl) only [go_sem, ↓mwp_block, simprocAttr])
        exact hK _ _ (last2 _ _ _ _ hbu.symm S)
      · have hbu : burnF D.fuse = D.fuse := by rw [burnF, if_neg hp]
        (try simp (maxSteps := 1000000) (disch := first | omega | assumption | exact Nat.le_of_ble_eq_true rfl) only [go_sem, ↓mwp_block, simprocAttr, hd, F, hfu])
        rw [hd] at S
        refine draw_st S ?_
        have rx : ∀ off K t, readT (fun h' => St h0 h' _) (fun h' => rd1 h' (.pointer (some ⟨w, off, none⟩))) K t = bindT ((rcells D.cap zs D.fuse false)[off]?) K ⟨⟩ := fun off K t => reads_of S (fun h' s => st_rd1 s)
        (try simp (maxSteps := 1000000) (disch := first | omega | assumption | exact Nat.le_of_ble_eq_true rfl) only [go_sem, ↓mwp_block, simprocAttr, rx, hc1, hc2])
        (refine st_alloc S ?_; clear S; intro q h S; (try simp only [splice_cons, splice_nil, List.set_cons_zero, List.set_cons_succ, Nat.zero_add, Nat.reduceAdd, List.cons_append, List.nil_append] at S); ((try clear F); have F := S.all; (try simp only [all_cons, all_nil, says_cell, and_true] at F)))
        have S := S.cellOwn (enc := bEnc) (sz := 1) (ys := []) bEnc_len rfl (by decide)
        refine chk_any S.tl ?_
        (try simp (maxSteps := 1000000) (disch := first | omega | assumption | exact Nat.le_of_ble_eq_true rfl) only [go_sem, ↓mwp_block, simprocAttr])
        refine st_append (bytes := 1) (xs := []) (ys := f.bs) bEnc_len (by omega) bEnc_plain rfl S rfl (src_arr bEnc_len (harr S.tl) rfl) (by simp; omega) (by simp; omega) ?_
        clear S F
        intro v' h S
        simp only [List.nil_append] at S
        obtain ⟨B1, e1, rfl⟩ := S.sl
        refine chk_any S.tl ?_
        (try simp (maxSteps := 1000000) (disch := first | omega | assumption | exact Nat.le_of_ble_eq_true rfl) only [go_sem, ↓mwp_block, simprocAttr])
        refine st_append (bytes := 1) (xs := f.bs) (ys := bs) bEnc_len (by omega) bEnc_plain rfl S rfl (src_arr bEnc_len (ha _ S.tl.tl.dropL) rfl) (by omega) (by omega) ?_
        clear S
        intro v' h S
        obtain ⟨B2, e2, rfl⟩ := S.sl
        refine chk_any S.tl ?_
        (try simp (maxSteps := 1000000) (disch := first | omega | assumption | exact Nat.le_of_ble_eq_true rfl) only [go_sem, ↓mwp_block, simprocAttr])
        refine st_store S.p1 rfl rfl (by rw [rcells_len h8]; omega) ?_
        clear S
        intro h S
        (try simp (maxSteps := 1000000) (disch := first | omega | assumption | exact Nat.le_of_ble_eq_true rfl) only [go_sem, ↓mwp_block, simprocAttr])
        exact hK _ _ (last2 _ _ _ _ hbu.symm S)
  · (try simp (maxSteps := 1000000) (disch := first | omega | assumption | exact Nat.le_of_ble_eq_true rfl) only [go_sem, ↓mwp_block, simprocAttr, hd])
    refine hK _ _ ?_
    have ha : askE D n = 6 := by simp only [askE, hd, if_true]
    simp only [appendD, ha, ne_eq, show ¬ ((6 : Int) = 0) by decide, not_false_eq_true, if_true]
    exact ⟨trivial, S0⟩
end Go.Proofs.Ytackopkhelochaa.MX
