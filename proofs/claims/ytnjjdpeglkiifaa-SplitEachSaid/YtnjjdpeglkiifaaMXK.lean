/- The engine, part K: whole code, and whole functions. -/
import Derived.Test.YtnjjdpeglkiifaaMXJ
namespace Go.Proofs.Ytnjjdpeglkiifaa.MX
open Go
set_option linter.unusedSimpArgs false
set_option linter.unusedVariables false
variable {P : Program} {N : Nat}

theorem lift_seq {ds : List Deferred} {w0 : World} {k : Env → Heap → Prop} {Q : MExit → Env → Heap → Prop} {next : Act → World → Prop} {e : Exit} {a : Act} {w : World}
    (hn : ∀ a w ρ, Rel N a ρ → a.defers = ds → Alike w0 w → k ρ w.heap → next a w) (h : lift N ds w0 (qseq k Q) e a w) : Exit.then next (lift N ds w0 Q) e a w := by
  cases e with
  | normal => obtain ⟨hd, ha, ρ, hr, hk⟩ := h; exact hn a w ρ hr hd ha hk
  | exit id => exact h
  | ret => exact h
  | goto l => exact h.elim
  | panic c => exact h.elim
  | outgrown => exact h.elim

theorem lift_blk {ds : List Deferred} {w0 : World} {id : Nat} {Q : MExit → Env → Heap → Prop} {e : Exit} {a : Act} {w : World} (h : lift N ds w0 (qblk id Q) e a w) : Exit.inBlock id (lift N ds w0 Q) e a w := by
  cases e with
  | normal => exact h
  | exit id' =>
    obtain ⟨hd, ha, ρ, hr, hk⟩ := h
    simp only [qblk] at hk
    simp only [Exit.inBlock]
    split
    · rename_i he; rw [if_pos he] at hk; exact ⟨hd, ha, ρ, hr, hk⟩
    · rename_i he; rw [if_neg he] at hk; exact ⟨hd, ha, ρ, hr, hk⟩
  | ret => exact h
  | goto l => exact h.elim
  | panic c => exact h.elim
  | outgrown => exact h.elim

theorem honest_of {ops : Array Oper} {ms : List MOper} (hl : ms.length = ops.toList.length) : Honest ops (fun i => match ms[i]? with | some m => isRd m.op | none => false) (fun i => needB ops.toList ms i) := by
  intro i j hr hij hre
  dsimp only at hr ⊢
  have hlt : i < ms.length := by
    rcases Nat.lt_or_ge i ms.length with h | h
    · exact h
    · simp [List.getElem?_eq_none h] at hr
  refine List.any_eq_true.2 ⟨i, List.mem_range.2 hlt, ?_⟩
  cases hm : ms[i]? with
  | none => rw [hm] at hr; cases hr
  | some m =>
    rw [hm] at hr
    simp only [Bool.and_eq_true, Bool.not_eq_true', bne_iff_ne, ne_eq] at hr ⊢
    refine ⟨⟨hr, hij⟩, ?_⟩
    simpa using hre

theorem code_sound : ∀ (c : Code) {ds : List Deferred} {w0 : World} {Q : MExit → Env → Heap → Prop} {a : Act} {ρ : Env} {w : World}, Rel N a ρ → a.defers = ds → Alike w0 w →
    mwp P (compC P N c) Q ρ w.heap → c.wp P (lift N ds w0 Q) a w := by
  intro c
  induction c with
  | skip => intro ds w0 Q a ρ w hr hd ha h; exact wp_skip ⟨hd, ha, ρ, hr, h⟩
  | region id ops draw =>
    intro ds w0 Q a ρ w hr hd ha h
    simp only [compC] at h
    split at h
    · rename_i ms hc
      split at h
      · rename_i hdr
        subst hdr
        split at h
        · rename_i hok
          simp only [Bool.and_eq_true] at hok
          obtain ⟨S, hS, h⟩ := h
          obtain ⟨hl, _⟩ := compOps_get _ _ hc
          refine wp_region_any hok.2 ?_
          have hsel : ∀ (j : Nat) (o : Oper) cs b, ops[j]? = some o → o.op ≠ .select cs b := by
            intro j o cs b ho heq
            have hm : o ∈ ops.toList := by
              rw [← Array.getElem?_toList] at ho
              exact List.mem_of_getElem? ho
            have := List.all_eq_true.1 hok.1 o hm
            obtain ⟨d, op, ty, ps, af, g⟩ := o
            subst heq
            cases this
          have hcl : Closed ops (List.replicate ops.toList.length false).toArray := by
            intro j o ho hl
            exfalso
            rcases Nat.lt_or_ge j ops.size with h' | h'
            · simp [Array.getD_eq_getD_getElem?, h'] at hl
            · simp [Array.getD_eq_getD_getElem?, Array.getElem?_eq_none h'] at hl
              rw [Array.getElem?_eq_none h'] at ho
              cases ho
          have := Gd.any _ _ _ _ (draw_sound (w0 := w0) (ds := ds) (Qm := Q) (Sh := S) hc hsel rfl rfl (honest_of hl) ops.toList.length (List.replicate ops.toList.length false) a ρ w.drew hr hd ⟨ha.1, ha.2.1, ha.2.2⟩ hcl (fun _ => hS) h)
          simpa using this
        · exact h.elim
      · rename_i hdr
        obtain rfl : draw = false := by simpa using hdr
        exact wp_region_list (ops_sound _ _ _ _ _ hr hd ha hc h)
    · exact h.elim
  | seq x y ihx ihy =>
    intro ds w0 Q a ρ w hr hd ha h
    refine wp_seq (wp_mono (ihx hr hd ha h) fun e a' w' h' => ?_)
    exact lift_seq (fun a w ρ hr hd ha hk => ihy hr hd ha hk) h'
  | cond cc x y ihx ihy =>
    intro ds w0 Q a ρ w hr hd ha h
    simp only [compC] at h
    split at h
    · rename_i c' hc
      simp only [mwp, condW] at h
      have he := opd_ev hr hc
      split at h
      · rename_i b hb
        refine wp_cond (t := b) (by rw [he, hb]) ?_
        cases b with
        | true => exact ihx hr hd ha (by simpa using h)
        | false => exact ihy hr hd ha (by simpa using h)
      · exact h.elim
    · exact h.elim
  | block id x ih =>
    intro ds w0 Q a ρ w hr hd ha h
    exact wp_block (wp_mono (ih hr hd ha h) fun e a' w' h' => lift_blk h')
  | loop x ih =>
    intro ds w0 Q a ρ w hr hd ha h
    obtain ⟨I, μ, h0, hround⟩ := h
    have hρ : ∀ {a : Act} {ρ : Env}, Rel N a ρ → ρ = fun t => a.tmps.getD t undef := fun h => funext fun t => (h.get t).symm
    refine wp_loop (fun a w => a.defers = ds ∧ Alike w0 w ∧ a.tmps.size = N ∧ I (fun t => a.tmps.getD t undef) w.heap)
      (fun a w => μ (fun t => a.tmps.getD t undef) w.heap) ⟨hd, ha, hr.size, by rw [← hρ hr]; exact h0⟩ ?_
    rintro a1 w1 ⟨hd1, ha1, hs1, hI1⟩
    have hr1 : Rel N a1 (fun t => a1.tmps.getD t undef) := ⟨hs1, fun _ => rfl⟩
    refine wp_mono (ih hr1 hd1 ha1 (hround _ _ hI1)) fun e a' w' h' => ?_
    refine lift_seq (fun a2 w2 ρ2 hr2 hd2 ha2 hk => ?_) h'
    have := hρ hr2
    subst this
    exact ⟨⟨hd2, ha2, hr2.size, hk.1⟩, hk.2⟩
  | exit id => intro ds w0 Q a ρ w hr hd ha h; exact wp_exit ⟨hd, ha, ρ, hr, h⟩
  | ret => intro ds w0 Q a ρ w hr hd ha h; exact wp_ret ⟨hd, ha, ρ, hr, h⟩
  | rangeFunc f ps as b _ _ => intro ds w0 Q a ρ w hr hd ha h; exact h.elim
  | scope b _ => intro ds w0 Q a ρ w hr hd ha h; exact h.elim
  | label l => intro ds w0 Q a ρ w hr hd ha h; exact h.elim
  | goto l => intro ds w0 Q a ρ w hr hd ha h; exact h.elim
  | refuse why => intro ds w0 Q a ρ w hr hd ha h; exact h.elim

end Go.Proofs.Ytnjjdpeglkiifaa.MX
