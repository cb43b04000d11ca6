/- Timers, part 1: slices.Insert of one timer. -/
import Derived.Test.YtnjjdpeglkiifaaMXX
import Derived.Test.YtnjjdpeglkiifaaMXP
import Derived.Test.YtnjjdpeglkiifaaMXR
import Derived.Test.YtnjjdpeglkiifaaIR
namespace Go.Proofs.Ytnjjdpeglkiifaa.MX
open Go Go.Proofs
set_option linter.unusedSimpArgs false
set_option linter.unusedVariables false
set_option maxHeartbeats 4000000
structure Tm where
  day : Int
  num : Int
deriving DecidableEq
def tmE (x : Tm) : List Value := [.int .i64 x.day, .int .i64 x.num]
theorem tmE_len (x : Tm) : (tmE x).length = 2 := rfl
theorem tmE_plain (x : Tm) : plainCells (tmE x) = true := rfl
abbrev tmz : List Value := [.int .i64 0, .int .i64 0]
theorem tmz_plain : ∀ n, plainCells (zerosL tmz n) = true
  | 0 => rfl
  | n + 1 => by
    have := tmz_plain n
    simp only [zerosL, tmz, List.cons_append, List.nil_append, plainCells]
    rw [this]; rfl
section
variable {h : Heap} {v : Value} {xs : List Tm}
theorem Insert_ok {i g : Nat} {x : Tm} (ho : OwnO tmE 2 30 h v xs) (hi : i ≤ xs.length) (hroom : xs.length < 1000000) (hgb : blk h g = some (tmE x, 30, (0, 0))) (hgv : g ∉ blkOf v) :
    CallsH Try.prog 60 [v, .int .i64 i, .slice (some ⟨g, 0, none⟩) 1 1] h fun v' h' => OwnO tmE 2 30 h' v' (xs.take i ++ x :: xs.drop i) ∧ Fr h h' (blkOf v) ∧ ∀ b ∈ blkOf v', b ∈ blkOf v ∨ h.size ≤ b := by
  have hsg : ∀ h', blk h' g = blk h g → srcCells h' 2 1 (.slice (some ⟨g, 0, none⟩) 1 1) = some (tmE x) := fun h' e => srcCells_rd rfl (by rw [rdN_blk (by rw [e]; exact hgb) (by simp [tmE])]; rfl)
  by_cases hin : i = xs.length
  · subst hin
    have key : ∀ {K : Value → Heap → Prop} {s1 : Tag h} {s2 : Tag K}, (∀ v' h', (OwnO tmE 2 30 h' v' (xs.take xs.length ++ x :: xs.drop xs.length) ∧ Fr h h' (blkOf v) ∧ ∀ b ∈ blkOf v', b ∈ blkOf v ∨ h.size ≤ b) → K v' h') → appT 30 2 16 tmz v (.slice (some ⟨g, 0, none⟩) 1 1) h K s1 s2 := by
      intro K s1 s2 hk
      refine appendO (ys := [x]) tmE_len (by omega) tmE_plain rfl ho rfl ?_ (by simp; omega) (by simp; omega) ?_
      · simpa using hsg h rfl
      · intro v' h' ho' hf hb
        exact hk _ _ ⟨by simpa using ho', hf, hb⟩
    obtain ⟨A, c, rfl⟩ := ho.slice
    obtain ⟨-, -, hlc, -⟩ := ho.arr tmE_len
    (refine enterK c_slices_Insert_timer_Timer_timer_Timer (Nat.le_of_ble_eq_true rfl) fun K hK => ?_; (try simp (maxSteps := 1000000) (disch := first | omega | assumption | exact Nat.le_of_ble_eq_true rfl) only [go_sem, ↓mwp_block, simprocAttr, ir_slices_Insert_timer_Timer_timer_Timer]))
    (try simp (maxSteps := 1000000) (disch := first | omega | assumption | exact Nat.le_of_ble_eq_true rfl) only [go_sem, ↓mwp_block, simprocAttr, cut_ok])
    refine key fun v' h' hq => ?_
    (try simp (maxSteps := 1000000) (disch := first | omega | assumption | exact Nat.le_of_ble_eq_true rfl) only [go_sem, ↓mwp_block, simprocAttr])
    exact hK _ _ hq
  have hlt : i < xs.length := by omega
  have ho0 := ho
  rcases ho with ⟨rfl, rfl⟩ | ⟨b, cap, pre, cs, post, rfl, hle, h63', hblk, hl⟩
  · simp at hlt
  obtain ⟨ha, -, -, -⟩ := ho0.arr tmE_len
  have hxl : (xs.flatMap tmE).length = xs.length * 2 := flat_length tmE_len xs
  have htl : ((xs.take i).flatMap tmE).length = i * 2 := by rw [flat_length tmE_len, List.length_take, Nat.min_eq_left hi]
  have hdl : ((xs.drop i).flatMap tmE).length = (xs.length - i) * 2 := by rw [flat_length tmE_len, List.length_drop]
  have hwl : (pre ++ ((xs.flatMap tmE ++ cs) ++ post)).length = pre.length + cap * 2 + post.length := by rw [List.length_append, List.length_append, hl]; omega
  have hbg : g ≠ b := fun e => hgv (by simp [blkOf, e])
  have hsd : ∀ h' n' c', blk h' b = blk h b → srcCells h' 2 (xs.length - i) (.slice (some ⟨b, pre.length + i * 2, none⟩) n' c') = some ((xs.drop i).flatMap tmE) := by
    intro h' n' c' e
    have ha' : Arr tmE 2 h' (some ⟨b, pre.length, none⟩) xs := ((ho0.keep (h' := h') (by simp [blkOf, e])).arr tmE_len).1
    have := src_arr (n := xs.length - i) (c := c') tmE_len (arr_dropG ha' i) (by rw [List.length_drop])
    rw [List.length_drop] at this
    exact this
  have e1 : ((xs.length : Int) + 1).toNat = xs.length + 1 := by omega
  have e2 : ((i : Int) + 1).toNat = i + 1 := by omega
  have e3 : (((xs.length + 1 : Nat) : Int) - ((i : Int) + 1)).toNat = xs.length - i := by omega
  have e4 : ((cap : Int) - ((i : Int) + 1)).toNat = cap - (i + 1) := by omega
  have e5 : (((xs.length + 1 : Nat) : Int) - (i : Int)).toNat = xs.length + 1 - i := by omega
  have hxi : (xs.drop i).flatMap tmE = tmE xs[i] ++ (xs.drop (i + 1)).flatMap tmE := by rw [List.drop_eq_getElem_cons hlt, List.flatMap_cons]
  have hdl1 : ((xs.drop (i + 1)).flatMap tmE).length = (xs.length - (i + 1)) * 2 := by rw [flat_length tmE_len, List.length_drop]
  by_cases hcp : (cap : Int) < xs.length + 1
  · (refine enterK c_slices_Insert_timer_Timer_timer_Timer (Nat.le_of_ble_eq_true rfl) fun K hK => ?_; (try simp (maxSteps := 1000000) (disch := first | omega | assumption | exact Nat.le_of_ble_eq_true rfl) only [go_sem, ↓mwp_block, simprocAttr, ir_slices_Insert_timer_Timer_timer_Timer]))
    (try simp (maxSteps := 1000000) (disch := first | omega | assumption | exact Nat.le_of_ble_eq_true rfl) only [go_sem, ↓mwp_block, simprocAttr, hcp])
    refine any_appMake (base := some ⟨b, pre.length, none⟩) (n := i) (c := cap) (sz := 2) (S := 22) (U := 3) (e := 30) (bytes := 16) (z := tmz) (m := xs.length + 1 - i) (old := (xs.take i).flatMap tmE) rfl rfl rfl rfl (by kernel_rfl) (by kernel_rfl) (by kernel_rfl) (by kernel_rfl) (by kernel_rfl) (by decide) (by (try simp (maxSteps := 1000000) (disch := first | omega | assumption | exact Nat.le_of_ble_eq_true rfl) only [go_sem, ↓mwp_block, simprocAttr])) (by (try simp (maxSteps := 1000000) (disch := first | omega | assumption | exact Nat.le_of_ble_eq_true rfl) only [go_sem, ↓mwp_block, simprocAttr]); exact congrArg _ (by omega)) (by omega) (by omega) (by omega) (by omega) ?_ ?_
    · have := src_arr (n := i) (c := cap) tmE_len (arr_takeG ha i) (by rw [List.length_take, Nat.min_eq_left hi])
      rwa [List.length_take, Nat.min_eq_left hi] at this
    · intro c' h1 h2
      have en : i + (xs.length + 1 - i) = xs.length + 1 := by omega
      have en2 : ((xs.length + 1 : Nat) : Int) - (i : Int) = ((xs.length + 1 - i : Nat) : Int) := by omega
      have en3 : xs.length + 1 - i = xs.length - i + 1 := by omega
      rw [en] at h1 ⊢
      by_cases hic : (i : Int) < c'
      case neg => omega
      (try simp (maxSteps := 1000000) (disch := first | omega | assumption | exact Nat.le_of_ble_eq_true rfl) only [go_sem, ↓mwp_block, simprocAttr, e2, e3])
      refine copy_fit (m := 1) (new := tmE x) rfl ?_ (blk_push_new rfl) ?_ (Nat.le_refl _) (tmE_plain _) ?_
      · have : min 1 (xs.length + 1 - i) = 1 := by omega
        rw [this]
        exact hsg _ (blk_push_old (blk_lt hgb))
      · simp only [List.length_append, htl, zerosL_length]
        simp [tmE]; omega
      intro h3 hb3 hf3 hs3
      rw [en3, show zerosL tmz (xs.length - i + 1) = tmz ++ zerosL tmz (xs.length - i) from rfl, List.append_assoc, List.append_assoc, ← htl, splice_at _ _ _ _ (by rfl)] at hb3
      (try simp (maxSteps := 1000000) (disch := first | omega | assumption | exact Nat.le_of_ble_eq_true rfl) only [go_sem, ↓mwp_block, simprocAttr])
      refine draw_fr [h.size] ?_
      (try simp (maxSteps := 1000000) (disch := first | omega | assumption | exact Nat.le_of_ble_eq_true rfl) only [go_sem, ↓mwp_block, simprocAttr, e2, e3])
      have hob : blk h3 b = blk h b := by
        rw [hf3.blk (blk_lt (by rw [blk_push_old (blk_lt hblk)]; exact hblk)) (by have := blk_lt hblk; simp; omega), blk_push_old (blk_lt hblk)]
      refine copy_fit (m := xs.length - i) (new := (xs.drop i).flatMap tmE) rfl (by rw [Nat.min_self]; exact hsd h3 _ _ hob) hb3 ?_ (Nat.le_refl _) (flat_plain tmE_plain _) ?_
      · simp only [List.length_append, htl, zerosL_length, hdl]
        simp [tmE]; omega
      intro h4 hb4 hf4 hs4
      rw [← List.append_assoc, show (i + 1) * 2 = ((xs.take i).flatMap tmE ++ tmE x).length by rw [List.length_append, htl, tmE_len]; omega, splice_at _ _ _ _ (by rw [hdl, zerosL_length]; rfl)] at hb4
      (try simp (maxSteps := 1000000) (disch := first | omega | assumption | exact Nat.le_of_ble_eq_true rfl) only [go_sem, ↓mwp_block, simprocAttr])
      refine hK _ _ ⟨.inr ⟨h.size, c', [], zerosL tmz (c' - (xs.length + 1)), [], ?_, ?_, h2, ?_, ?_⟩, ?_, ?_⟩
      · simp; omega
      · simp; omega
      · rw [hb4]; simp
      · simp only [List.length_append, List.flatMap_append, List.flatMap_cons, htl, hdl, tmE_len, zerosL_length]
        simp; omega
      · have h5 := hf3.trans hf4
        refine ⟨by have := h5.size; simp at this; omega, fun b' hb' _ => ?_⟩
        rw [h5.same b' (by simp; omega) (by simp; omega), Array.getElem?_push, if_neg (by omega)]
      · intro b' hb'
        simp only [blkOf, List.mem_singleton] at hb'
        omega
  · (refine enterK c_slices_Insert_timer_Timer_timer_Timer (Nat.le_of_ble_eq_true rfl) fun K hK => ?_; (try simp (maxSteps := 1000000) (disch := first | omega | assumption | exact Nat.le_of_ble_eq_true rfl) only [go_sem, ↓mwp_block, simprocAttr, ir_slices_Insert_timer_Timer_timer_Timer]))
    (try simp (maxSteps := 1000000) (disch := first | omega | assumption | exact Nat.le_of_ble_eq_true rfl) only [go_sem, ↓mwp_block, simprocAttr, hcp, e1, e2, e3, e4])
    refine any_overlaps (fn := Option.get (Try.prog.funcs[94]?) (by kernel_rfl)) (oa := 0) (la := 1) (ca := 1) (ob := pre.length + (i + 1) * 2) (lb := xs.length - i) (cb := cap - (i + 1)) (S := 22) (R := 4) (e := 30) (sz := 2) rfl rfl rfl (Option.some_get _).symm (by kernel_rfl) (by kernel_rfl) (by kernel_rfl) (by kernel_rfl) (by kernel_rfl) (by kernel_rfl) (by (try simp (maxSteps := 1000000) (disch := first | omega | assumption | exact Nat.le_of_ble_eq_true rfl) only [go_sem, ↓mwp_block, simprocAttr])) (by (try simp (maxSteps := 1000000) (disch := first | omega | assumption | exact Nat.le_of_ble_eq_true rfl) only [go_sem, ↓mwp_block, simprocAttr, e1, e2, e3, e4])) hbg hgb hblk (by intro e; have := congrArg List.length e; rw [hwl] at this; simp at this; omega) ?_
    (try simp (maxSteps := 1000000) (disch := first | omega | assumption | exact Nat.le_of_ble_eq_true rfl) only [go_sem, ↓mwp_block, simprocAttr])
    refine draw_fr [b] ?_
    (try simp (maxSteps := 1000000) (disch := first | omega | assumption | exact Nat.le_of_ble_eq_true rfl) only [go_sem, ↓mwp_block, simprocAttr, e1, e2, e3, e4, e5])
    refine copy_fit (m := xs.length + 1 - i) (new := (xs.drop i).flatMap tmE) rfl (by rw [show min (xs.length + 1 - i) (xs.length - i) = xs.length - i by omega]; exact hsd h _ _ rfl) hblk (by rw [hwl, hdl]; omega) (Nat.le_refl _) (flat_plain tmE_plain _) ?_
    intro h3 hb3 hf3 hs3
    (try simp (maxSteps := 1000000) (disch := first | omega | assumption | exact Nat.le_of_ble_eq_true rfl) only [go_sem, ↓mwp_block, simprocAttr, e1, e2, e3, e4, e5])
    refine copy_fit (m := 1) (new := tmE x) rfl ?_ hb3 (by rw [splice_length, hwl, tmE_len]; omega) (Nat.le_refl _) (tmE_plain _) ?_
    · rw [show min 1 (xs.length + 1 - i) = 1 by omega]
      exact hsg _ (hf3.blk (blk_lt hgb) (by simpa using hbg))
    intro h4 hb4 hf4 hs4
    (try simp (maxSteps := 1000000) (disch := first | omega | assumption | exact Nat.le_of_ble_eq_true rfl) only [go_sem, ↓mwp_block, simprocAttr])
    have hcs : 2 ≤ cs.length := by rw [List.length_append, hxl] at hl; omega
    have hsplit : xs.flatMap tmE ++ cs = ((xs.take i).flatMap tmE ++ tmE xs[i]) ++ ((xs.drop (i + 1)).flatMap tmE ++ cs) := by rw [flat_split tmE xs i, hxi]; simp only [List.append_assoc]
    have hin1 : splice (xs.flatMap tmE ++ cs) ((i + 1) * 2) ((xs.drop i).flatMap tmE) = (xs.take i).flatMap tmE ++ (tmE xs[i] ++ ((xs.drop i).flatMap tmE ++ ((xs.drop (i + 1)).flatMap tmE ++ cs).drop ((xs.drop i).flatMap tmE).length)) := by
      rw [hsplit, splice_append _ _ [] _ (by rw [List.length_append, htl, tmE_len]; omega) _ (by rw [List.length_append, hdl, hdl1]; omega)]
      simp only [List.append_assoc]
    rw [splice_mid pre _ post _ (by omega) (k := (i + 1) * 2) (by rw [hl, hdl]; omega), hin1, splice_mid pre _ post _ rfl (by simp only [List.length_append, htl, tmE_len]; omega), ← htl, splice_at _ _ _ _ (by rfl)] at hb4
    refine hK _ _ ⟨.inr ⟨b, cap, pre, ((xs.drop (i + 1)).flatMap tmE ++ cs).drop ((xs.drop i).flatMap tmE).length, post, ?_, ?_, h63', ?_, ?_⟩, hf3.trans hf4, fun b' hb' => .inl hb'⟩
    · simp; omega
    · simp; omega
    · rw [hb4]; simp
    · simp only [List.length_append, List.flatMap_append, List.flatMap_cons, htl, hdl, hdl1, tmE_len, List.length_drop]
      rw [List.length_append, hxl] at hl
      omega
end
end Go.Proofs.Ytnjjdpeglkiifaa.MX
