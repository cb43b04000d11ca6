/- The engine, part C: what the small language's operations say holds of the loaded operations. -/
import Derived.Test.YtnjjdpeglkiifaaMXB
import Derived.WalkKit
namespace Go.Proofs.Ytnjjdpeglkiifaa.MX
open Go
set_option linter.unusedSimpArgs false

structure Rel (N : Nat) (a : Act) (ρ : Env) : Prop where
  size : a.tmps.size = N
  get : ∀ t, a.tmps.getD t undef = ρ t

theorem Rel.put {N : Nat} {a : Act} {ρ : Env} (h : Rel N a ρ) (d : Option Nat) (hd : dstOk N d = true) (v : Value) : Rel N (a.put d v) (updO ρ d v) := by
  cases d with
  | none => exact h
  | some d =>
    have hd' : d < N := by simpa [dstOk] using hd
    refine ⟨by simp [Act.put, h.size], fun t => ?_⟩
    simp only [Act.put, updO, upd]
    by_cases e : t = d
    · subst e
      simp [Array.getD_eq_getD_getElem?, h.size, hd']
    · have := h.get t
      simp only [Array.getD_eq_getD_getElem?] at this ⊢
      rw [Array.getElem?_setIfInBounds_ne (fun h => e h.symm)]
      simp [e, this]

theorem opd_ev {N : Nat} {a : Act} {ρ : Env} (h : Rel N a ρ) {x : Operand} {y : Opd} (hx : opd N x = some y) : a.eval x = ev ρ y := by
  cases x with
  | tmp t =>
    simp only [opd] at hx
    split at hx
    · cases hx; exact h.get t
    · cases hx
  | const v => cases hx; rfl
  | global g => cases hx; rfl
  | func f => cases hx; rfl

theorem bindV_eq {α β : Type} {x : Option α} {K : α → Option β} {y : β} (h : bindV x K = some y) : ∃ v, x = some v ∧ K v = some y := by
  cases x with
  | none => cases h
  | some v => exact ⟨v, rfl, h⟩
theorem bindO_eq {α : Type} {x : Option α} {K : α → Prop} (h : bindO x K) : ∃ v, x = some v ∧ K v := by
  cases x with
  | none => exact h.elim
  | some v => exact ⟨v, rfl, h⟩

theorem opds_ev {N : Nat} {a : Act} {ρ : Env} (h : Rel N a ρ) : ∀ {xs : List Operand} {ys : List Opd}, opds N xs = some ys → xs.map a.eval = ys.map (ev ρ)
  | [], ys, hx => by cases hx; rfl
  | x :: xs, ys, hx => by
    simp only [opds] at hx
    obtain ⟨y, h1, hx⟩ := bindV_eq hx
    obtain ⟨r, h2, hx⟩ := bindV_eq hx
    cases hx
    simp [opd_ev h h1, opds_ev h h2]

theorem opdO_ev {N : Nat} {a : Act} {ρ : Env} (h : Rel N a ρ) {x : Option Operand} {y : Option Opd} (hx : opdO N x = some y) : x.map a.eval = y.map (ev ρ) := by
  cases x with
  | none => cases hx; rfl
  | some x =>
    simp only [opdO] at hx
    obtain ⟨y', h1, hx⟩ := bindV_eq hx
    cases hx
    simp [opd_ev h h1]

/-- What an operation comes to. -/
def OpOut (P : Program) (o : Oper) (a : Act) (w : World) (K : Value → Heap → Prop) : Prop :=
  (∃ v w', (execOp a.eval o).run P w = .ok (.value v) w' ∧ Alike w w' ∧ K v w'.heap) ∨
  (∃ w', (execOp a.eval o).run P w = .ok .skip w' ∧ Alike w w' ∧ K undef w'.heap) ∨
  (∃ f args w', (execOp a.eval o).run P w = .ok (.enter f args) w' ∧ Alike w w' ∧ CallsH P f args.toList w'.heap K)

theorem Alike.refl (w : World) : Alike w w := ⟨rfl, rfl, rfl⟩
theorem Alike.trans {a b c : World} (h : Alike a b) (k : Alike b c) : Alike a c := ⟨k.1.trans h.1, k.2.1.trans h.2.1, k.2.2.trans h.2.2⟩

theorem OpOut.value {P : Program} {o : Oper} {a : Act} {w : World} {K : Value → Heap → Prop} {v : Value} (h : (execOp a.eval o).run P w = .ok (.value v) w) (hk : K v w.heap) : OpOut P o a w K :=
  .inl ⟨v, w, h, .refl w, hk⟩
theorem OpOut.value' {P : Program} {o : Oper} {a : Act} {w : World} {K : Value → Heap → Prop} {v : Value} (w' : World) (h : (execOp a.eval o).run P w = .ok (.value v) w') (ha : Alike w w') (hk : K v w'.heap) : OpOut P o a w K :=
  .inl ⟨v, w', h, ha, hk⟩

theorem OpOut.wp {P : Program} {o : Oper} {a : Act} {w : World} {K : Value → Heap → Prop} {next : Act → World → Prop} {Q : Exit → Act → World → Prop}
    (h : OpOut P o a w K) (hn : ∀ v w', Alike w w' → K v w'.heap → next (a.put o.dst v) w') : o.wp P a w next Q := by
  unfold Oper.wp
  rcases h with ⟨v, w', hr, ha, hk⟩ | ⟨w', hr, ha, hk⟩ | ⟨f, args, w', hr, ha, hk⟩
  · rw [hr]; exact hn _ _ ha hk
  · rw [hr]; exact hn _ _ ha hk
  · rw [hr]
    have := hk w' rfl
    rw [Array.toArray_toList] at this
    refine this.mono ?_
    rintro e w'' ⟨v, rfl, ha2, hk2⟩
    exact hn _ _ (ha.trans ha2) hk2

theorem szOf_run {P : Program} {t : TypeId} {n : Nat} (h : szOf P t = some n) (w : World) : (sizeOf t).run P w = .ok n w := by
  unfold szOf at h
  split at h
  · rename_i i hi
    cases h
    simp [sizeOf, typeInfo, hi]
  · cases h

theorem zeroL_run {P : Program} {t : TypeId} {z : List Value} (h : zeroL P t = some z) (w : World) : ∃ v, (zeroValue t).run P w = .ok v w ∧ v.cells = z.toArray := by
  unfold zeroL at h
  split at h
  · rename_i i hi
    split at h
    · rename_i v hv
      cases h
      exact ⟨v, by simp [zeroValue, typeInfo, hi, hv], by simp [cellsOf]⟩
    · cases h
  · cases h

theorem und_run {P : Program} {t : TypeId} {d : TypeDesc} (h : P.underlying t = some d) (w : World) : (underlying t).run P w = .ok d w := run_underlying h w

theorem isAggB_run {P : Program} {t : TypeId} {g : Bool} (h : isAggB P t = some g) (w : World) : (isAgg t).run P w = .ok g w := by
  unfold isAggB at h
  split at h
  · rename_i fs hd; cases h; simp [isAgg, und_run hd]
  · rename_i n e hd; cases h; simp [isAgg, und_run hd]
  · rename_i d hs ha hd
    cases h
    simp only [isAgg, Sem.run_bind, und_run hd, Result.andThen_ok]
    cases d <;> simp_all
  · cases h

theorem blk_cell {w : World} {b : Nat} {c : List Value} {e : Nat} {f : Nat × Nat} (h : blk w.heap b = some (c, e, f)) (off : Nat) : w.cell? ⟨b, off, none⟩ = c[off]? := by
  unfold blk at h
  split at h
  · rename_i c' e' f' hb
    cases h
    simp [World.cell?, hb]
  · cases h

theorem rdN_spec {w : World} {b off n : Nat} {cs : List Value} (h : rdN w.heap b off n = some cs) :
    cs.length = n ∧ ∀ j v, cs[j]? = some v → w.cell? ⟨b, off + j, none⟩ = some v := by
  unfold rdN at h
  split at h
  · rename_i c e f hb
    split at h
    · rename_i hle
      cases h
      refine ⟨by simp; omega, fun j v hj => ?_⟩
      rw [blk_cell hb]
      rw [List.getElem?_take] at hj
      split at hj
      · rw [List.getElem?_drop] at hj; exact hj
      · cases hj
    · cases h
  · cases h

theorem add_none (b off j : Nat) : (⟨b, off, none⟩ : Addr).add j = ⟨b, off + j, none⟩ := by
  unfold Addr.add
  split
  · rename_i h; simp [h]
  · rfl

theorem rdA_spec {P : Program} {w : World} {v : Value} {n : Nat} {cs : List Value} (h : rdA w.heap v n = some cs) :
    ∃ b off, v = .pointer (some ⟨b, off, none⟩) ∧ cs.length = n ∧ (loadCells ⟨b, off, none⟩ n).run P w = .ok cs.toArray w ∧ ∀ j u, cs[j]? = some u → w.cell? ⟨b, off + j, none⟩ = some u := by
  unfold rdA at h
  split at h
  · rename_i b off
    obtain ⟨hl, hc⟩ := rdN_spec h
    refine ⟨b, off, rfl, hl, ?_, hc⟩
    subst hl
    exact run_loadCells_list _ _ _ (fun j v hj => by rw [add_none]; exact hc j v hj)
  · cases h

theorem rd1_spec {w : World} {v x : Value} (h : rd1 w.heap v = some x) : ∃ b off, v = .pointer (some ⟨b, off, none⟩) ∧ w.cell? ⟨b, off, none⟩ = some x := by
  unfold rd1 at h
  split at h
  · rename_i y hy
    cases h
    obtain ⟨b, off, hv, _, _, hc⟩ := rdA_spec (P := default) hy
    exact ⟨b, off, hv, by simpa using hc 0 x rfl⟩
  · cases h

theorem splice_length (c : List Value) (off : Nat) : ∀ vs : List Value, (splice c off vs).length = c.length := by
  intro vs
  induction vs generalizing c off with
  | nil => rfl
  | cons v vs ih => simp [splice, ih]

theorem setCell_blk {w : World} {b off : Nat} {c : List Value} {e : Nat} {f : Nat × Nat} (hb : blk w.heap b = some (c, e, f)) (v : Value) :
    (w.setCell ⟨b, off, none⟩ v).heap = w.heap.setIfInBounds b (.cells (c.set off v).toArray e f) := by
  unfold blk at hb
  split at hb
  · rename_i c' e' f' hb'
    cases hb
    apply Array.ext_getElem?
    intro i
    simp only [World.setCell, Array.getElem?_modify, Array.getElem?_setIfInBounds]
    by_cases hi : b = i
    · subst hi
      have hlt : b < w.heap.size := by
        rcases Nat.lt_or_ge b w.heap.size with h | h
        · exact h
        · rw [Array.getElem?_eq_none h] at hb'; cases hb'
      have hg : w.heap[b] = .cells c' e f := by
        rw [Array.getElem?_eq_getElem hlt] at hb'
        exact Option.some.inj hb'
      simp [hlt, hg, ← List.setIfInBounds_toArray]
    · simp [hi]
  · cases hb

theorem blk_set_same {h : Heap} {b : Nat} {c : List Value} {e : Nat} {f : Nat × Nat} (hlt : b < h.size) : blk (h.setIfInBounds b (.cells c.toArray e f)) b = some (c, e, f) := by
  simp [blk, hlt]

theorem blk_lt {h : Heap} {b : Nat} {x : List Value × Nat × (Nat × Nat)} (hb : blk h b = some x) : b < h.size := by
  rcases Nat.lt_or_ge b h.size with h' | h'
  · exact h'
  · simp [blk, Array.getElem?_eq_none h'] at hb

theorem set_set_blk (h : Heap) (b : Nat) (x y : Obj) : (h.setIfInBounds b x).setIfInBounds b y = h.setIfInBounds b y := by
  apply Array.ext_getElem?
  intro i
  simp only [Array.getElem?_setIfInBounds]
  by_cases hi : b = i <;> simp [hi]

theorem storeCells_run {P : Program} {b off e : Nat} {f : Nat × Nat} : ∀ (vs : List Value) (i : Nat) (w : World) (c : List Value),
    blk w.heap b = some (c, e, f) → off + i + vs.length ≤ c.length → (f.2 ≤ f.1 ∨ off + i + vs.length ≤ f.1 ∨ f.2 ≤ off + i) → plainCells vs = true →
    ∃ w', (storeCells ⟨b, off, none⟩ vs i).run P w = .ok () w' ∧ Alike w w' ∧ w'.heap = w.heap.setIfInBounds b (.cells (splice c (off + i) vs).toArray e f)
  | [], i, w, c, hb, _, _, _ => by
    refine ⟨w, rfl, .refl w, ?_⟩
    apply Array.ext_getElem?
    intro j
    simp only [Array.getElem?_setIfInBounds, splice]
    have hlt := blk_lt hb
    by_cases hj : b = j
    · subst hj
      unfold blk at hb
      split at hb
      · rename_i c' e' f' hb'
        cases hb
        have hg : w.heap[b] = .cells c' e f := by
          rw [Array.getElem?_eq_getElem hlt] at hb'
          exact Option.some.inj hb'
        simp [hlt, hg]
      · cases hb
    · simp [hj]
  | v :: vs, i, w, c, hb, hle, hf, hp => by
    simp only [plainCells, Bool.and_eq_true] at hp
    simp only [List.length_cons] at hle hf
    have hcell : w.cell? ⟨b, off + i, none⟩ = c[off + i]? := blk_cell hb _
    have hsome : c[off + i]? = some (c[off + i]'(by omega)) := List.getElem?_eq_getElem (by omega)
    have hfr : w.frozen? ⟨b, off + i, none⟩ = false := by
      unfold blk at hb
      split at hb
      · rename_i c' e' f' hb'
        cases hb
        simp only [World.frozen?, hb']
        simp only [Bool.and_eq_false_iff, decide_eq_false_iff_not]
        omega
      · cases hb
    obtain ⟨w', hr, ha, hh⟩ := storeCells_run (P := P) (off := off) (e := e) (f := f) vs (i + 1) (w.setCell ⟨b, off + i, none⟩ v) (c.set (off + i) v)
      (by rw [setCell_blk hb]; exact blk_set_same (blk_lt hb)) (by simp; omega) (by omega) hp.2
    refine ⟨w', ?_, ha, ?_⟩
    · simp only [storeCells, add_none, Sem.run_bind]
      rw [run_store P w _ v .plain hp.1, hcell, hsome]
      simp only [hfr, Bool.false_eq_true, if_false, Result.andThen_ok]
      exact hr
    · rw [hh, setCell_blk hb, set_set_blk]
      simp [splice, Nat.add_assoc]

theorem wrW_run {P : Program} {w : World} {v : Value} {cs : List Value} {K : Heap → Prop} (h : wrW w.heap v cs K) :
    ∃ b off w', v = .pointer (some ⟨b, off, none⟩) ∧ (storeCells ⟨b, off, none⟩ cs).run P w = .ok () w' ∧ Alike w w' ∧ K w'.heap := by
  unfold wrW at h
  split at h
  · rename_i b off
    split at h
    · rename_i c e f hb
      obtain ⟨⟨h1, h2, h3⟩, hk⟩ := h
      obtain ⟨w', hr, ha, hh⟩ := storeCells_run (P := P) (off := off) cs 0 w c hb (by simpa using h1) (by simpa using h2) h3
      exact ⟨b, off, w', rfl, hr, ha, by rw [hh]; simpa using hk⟩
    · exact h.elim
  · exact h.elim

end Go.Proofs.Ytnjjdpeglkiifaa.MX
