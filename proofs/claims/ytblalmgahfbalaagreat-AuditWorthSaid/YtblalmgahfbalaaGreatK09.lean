/- Texts in one file: MXS, MXV, MXR. -/
import Derived.Test.YtblalmgahfbalaaGreatK07
import Derived.Test.YtblalmgahfbalaaGreatK08

/- The library's functions on slices, whatever the elements' type: Clone, IndexFunc, Delete, DeleteFunc. -/
namespace Go.Proofs.YtblalmgahfbalaaGreat.MX
open Go
set_option linter.unusedSimpArgs false
set_option linter.unusedVariables false

def irClone (T sz bytes : Nat) (z : List Value) : MFn := MFn.mk (MCode.seq (MCode.ops [MOper.mk (some 2) (MOp.p (Pure.mov (Opd.c (Value.slice none 0 0)))) none]) (MCode.seq (MCode.seq (MCode.ops [MOper.mk (some 3) (MOp.p (Pure.mov (Opd.t 0))) none, MOper.mk (some 4) (MOp.p (Pure.eq EK.s false (Opd.t 3) (Opd.c (Value.slice none 0 0)))) none]) (MCode.cond (Opd.t 4) (MCode.seq (MCode.ops [MOper.mk (some 2) (MOp.p (Pure.mov (Opd.c (Value.slice none 0 0)))) none]) MCode.ret) MCode.skip)) (MCode.seq (MCode.ops [MOper.mk (some 5) (MOp.e (Eff.bslice T 0 z [])) none, MOper.mk (some 6) (MOp.p (Pure.mov (Opd.t 0))) none, MOper.mk (some 7) (MOp.e (Eff.append T sz bytes z (Opd.t 5) (Opd.t 6))) none, MOper.mk (some 2) (MOp.p (Pure.mov (Opd.t 7))) none]) MCode.ret))) [MRes.tmp 2] 8

section
variable {P : Program} {α : Type} {enc : α → List Value} {T sz bytes : Nat} {z : List Value} {h : Heap} {A : Option Addr} {n c : Nat} {xs : List α}

/-- slices.Clone: a slice of its own, alike; nil of nil. -/
theorem clone_ok {f : FuncId} (hc : compF P f = some (irClone T sz bytes z)) (hsz : ∀ x, (enc x).length = sz) (h0 : 0 < sz) (hpl : ∀ x, plainCells (enc x) = true) (hz : z.length = sz)
    (ha : Arr enc sz h A xs) (hn : n = xs.length) (hA : A = none → xs = []) (hroom : xs.length * bytes ≤ 140737488355328) (h63 : xs.length ≤ 9223372036854775807) :
    CallsH P f [.slice A n c] h fun v h' => Own enc sz T h.size h' v xs ∧ Fr h h' [] ∧ (A = none → v = .slice none 0 0) := by
  refine enterK hc (Nat.le_of_ble_eq_true rfl) fun K hK => ?_
  simp (disch := first | omega | assumption | ((repeat' (first | exact Fr.refl _ _ | assumption | (refine Fr.via (by assumption) ?_ (by intro i hi hm; first | exact hm | exact List.mem_cons_of_mem _ hm | exact absurd hm List.not_mem_nil | (simp only [List.mem_cons, List.mem_append, List.not_mem_nil, or_false] at hm ⊢; omega))) | refine Fr.push ?_ _ | (refine Fr.setM ?_ ?_ _; · first | exact List.mem_cons_self | (simp only [List.mem_cons, true_or, or_true]; done)) | (refine Fr.setN ?_ ?_ _; · first | omega | (simp only [Array.size_push, Array.size_setIfInBounds]; omega)))); done) | (simp only [Array.size_push, Array.size_setIfInBounds, List.length_cons, List.length_nil, List.mem_cons, List.not_mem_nil, or_false, false_or, not_false_eq_true, not_or]; done) | (simp only [Array.size_push, Array.size_setIfInBounds, List.length_cons, List.length_nil, List.mem_cons, List.not_mem_nil, or_false, false_or, not_or]; omega)) only [go_sem, ↓mwp_block, ↓e_alloc, ↓e_box, ↓e_bslice, storeT_eq, Nat.reduceEqDiff, Nat.reduceAdd, Nat.reduceMul, Nat.reduceSub, Nat.reduceLeDiff, Nat.reduceLT, reduceIte, Int.reduceLT, Int.reduceLE, Int.reduceAdd, Int.reduceSub, Int.reduceMul, Int.reduceEq, Int.reduceToNat, Int.reduceNeg, Int.reduceNe, irClone]
  cases A with
  | none =>
    simp (disch := first | omega | assumption | ((repeat' (first | exact Fr.refl _ _ | assumption | (refine Fr.via (by assumption) ?_ (by intro i hi hm; first | exact hm | exact List.mem_cons_of_mem _ hm | exact absurd hm List.not_mem_nil | (simp only [List.mem_cons, List.mem_append, List.not_mem_nil, or_false] at hm ⊢; omega))) | refine Fr.push ?_ _ | (refine Fr.setM ?_ ?_ _; · first | exact List.mem_cons_self | (simp only [List.mem_cons, true_or, or_true]; done)) | (refine Fr.setN ?_ ?_ _; · first | omega | (simp only [Array.size_push, Array.size_setIfInBounds]; omega)))); done) | (simp only [Array.size_push, Array.size_setIfInBounds, List.length_cons, List.length_nil, List.mem_cons, List.not_mem_nil, or_false, false_or, not_false_eq_true, not_or]; done) | (simp only [Array.size_push, Array.size_setIfInBounds, List.length_cons, List.length_nil, List.mem_cons, List.not_mem_nil, or_false, false_or, not_or]; omega)) only [go_sem, ↓mwp_block, ↓e_alloc, ↓e_box, ↓e_bslice, storeT_eq, Nat.reduceEqDiff, Nat.reduceAdd, Nat.reduceMul, Nat.reduceSub, Nat.reduceLeDiff, Nat.reduceLT, reduceIte, Int.reduceLT, Int.reduceLE, Int.reduceAdd, Int.reduceSub, Int.reduceMul, Int.reduceEq, Int.reduceToNat, Int.reduceNeg, Int.reduceNe]
    exact hK _ _ ⟨.inl ⟨rfl, hA rfl⟩, by ((repeat' (first | exact Fr.refl _ _ | assumption | (refine Fr.via (by assumption) ?_ (by intro i hi hm; first | exact hm | exact List.mem_cons_of_mem _ hm | exact absurd hm List.not_mem_nil | (simp only [List.mem_cons, List.mem_append, List.not_mem_nil, or_false] at hm ⊢; omega))) | refine Fr.push ?_ _ | (refine Fr.setM ?_ ?_ _; · first | exact List.mem_cons_self | (simp only [List.mem_cons, true_or, or_true]; done)) | (refine Fr.setN ?_ ?_ _; · first | omega | (simp only [Array.size_push, Array.size_setIfInBounds]; omega)))); done), fun _ => rfl⟩
  | some a =>
    simp (disch := first | omega | assumption | ((repeat' (first | exact Fr.refl _ _ | assumption | (refine Fr.via (by assumption) ?_ (by intro i hi hm; first | exact hm | exact List.mem_cons_of_mem _ hm | exact absurd hm List.not_mem_nil | (simp only [List.mem_cons, List.mem_append, List.not_mem_nil, or_false] at hm ⊢; omega))) | refine Fr.push ?_ _ | (refine Fr.setM ?_ ?_ _; · first | exact List.mem_cons_self | (simp only [List.mem_cons, true_or, or_true]; done)) | (refine Fr.setN ?_ ?_ _; · first | omega | (simp only [Array.size_push, Array.size_setIfInBounds]; omega)))); done) | (simp only [Array.size_push, Array.size_setIfInBounds, List.length_cons, List.length_nil, List.mem_cons, List.not_mem_nil, or_false, false_or, not_false_eq_true, not_or]; done) | (simp only [Array.size_push, Array.size_setIfInBounds, List.length_cons, List.length_nil, List.mem_cons, List.not_mem_nil, or_false, false_or, not_or]; omega)) only [go_sem, ↓mwp_block, ↓e_alloc, ↓e_box, ↓e_bslice, storeT_eq, Nat.reduceEqDiff, Nat.reduceAdd, Nat.reduceMul, Nat.reduceSub, Nat.reduceLeDiff, Nat.reduceLT, reduceIte, Int.reduceLT, Int.reduceLE, Int.reduceAdd, Int.reduceSub, Int.reduceMul, Int.reduceEq, Int.reduceToNat, Int.reduceNeg, Int.reduceNe]
    have ho : Own enc sz T h.size (h.push (.cells ([] : List Value).toArray T (0, 0))) (.slice (some ⟨h.size, 0, none⟩) 0 0) ([] : List α) :=
      .inr ⟨h.size, 0, [], rfl, Nat.le_refl _, Nat.le_refl _, by omega, by simpa using blk_push_new (c := []) rfl, by simp⟩
    have ha' : Arr enc sz (h.push (.cells ([] : List Value).toArray T (0, 0))) (some a) xs := ha.fr (M := []) (by ((repeat' (first | exact Fr.refl _ _ | assumption | (refine Fr.via (by assumption) ?_ (by intro i hi hm; first | exact hm | exact List.mem_cons_of_mem _ hm | exact absurd hm List.not_mem_nil | (simp only [List.mem_cons, List.mem_append, List.not_mem_nil, or_false] at hm ⊢; omega))) | refine Fr.push ?_ _ | (refine Fr.setM ?_ ?_ _; · first | exact List.mem_cons_self | (simp only [List.mem_cons, true_or, or_true]; done)) | (refine Fr.setN ?_ ?_ _; · first | omega | (simp only [Array.size_push, Array.size_setIfInBounds]; omega)))); done)) (fun _ _ _ => by simp)
    refine append_own (ys := xs) hsz h0 hpl hz ho (by simp) (by rw [hn]; rfl) (src_arr hsz ha' hn) (by simpa using hroom) (by simpa using h63) ?_
    intro v' h' ho' hf hb
    simp (disch := first | omega | assumption | ((repeat' (first | exact Fr.refl _ _ | assumption | (refine Fr.via (by assumption) ?_ (by intro i hi hm; first | exact hm | exact List.mem_cons_of_mem _ hm | exact absurd hm List.not_mem_nil | (simp only [List.mem_cons, List.mem_append, List.not_mem_nil, or_false] at hm ⊢; omega))) | refine Fr.push ?_ _ | (refine Fr.setM ?_ ?_ _; · first | exact List.mem_cons_self | (simp only [List.mem_cons, true_or, or_true]; done)) | (refine Fr.setN ?_ ?_ _; · first | omega | (simp only [Array.size_push, Array.size_setIfInBounds]; omega)))); done) | (simp only [Array.size_push, Array.size_setIfInBounds, List.length_cons, List.length_nil, List.mem_cons, List.not_mem_nil, or_false, false_or, not_false_eq_true, not_or]; done) | (simp only [Array.size_push, Array.size_setIfInBounds, List.length_cons, List.length_nil, List.mem_cons, List.not_mem_nil, or_false, false_or, not_or]; omega)) only [go_sem, ↓mwp_block, ↓e_alloc, ↓e_box, ↓e_bslice, storeT_eq, Nat.reduceEqDiff, Nat.reduceAdd, Nat.reduceMul, Nat.reduceSub, Nat.reduceLeDiff, Nat.reduceLT, reduceIte, Int.reduceLT, Int.reduceLE, Int.reduceAdd, Int.reduceSub, Int.reduceMul, Int.reduceEq, Int.reduceToNat, Int.reduceNeg, Int.reduceNe]
    refine hK _ _ ⟨by simpa using ho', ⟨?_, ?_⟩, fun h1 => by cases h1⟩
    · have := hf.size; simp at this; omega
    · intro b hb1 _
      rw [hf.same b (by simp; omega) (by simp [blkOf]; omega), Array.getElem?_push, if_neg (by omega)]


/-- A function value that asks something of an element, and turns nothing, whatever the blocks M have. -/
def Asks (P : Program) (enc : α → List Value) (h : Heap) (M : List Nat) (fv : Value) (p : α → Bool) : Prop :=
  ∃ F caps, fv = .func (.func F) #[] (List.toArray caps) ∧ okFn P F = true ∧ ∀ x h', Fr h h' M → CallsH P F (.agg (enc x).toArray :: caps) h' fun v h'' => v = .bool (p x) ∧ Fr h' h'' []

theorem Asks.call {fv : Value} {M : List Nat} {p : α → Bool} (ha : Asks P enc h M fv p) {x : α} {h' : Heap} (hf : Fr h h' M) {K : Value → Heap → Prop} {s : Tag h'} {t : Tag K} (hk : ∀ h'', Fr h' h'' [] → K (.bool (p x)) h'') : callvT P fv [.agg (enc x).toArray] h' K s t := by
  obtain ⟨F, caps, rfl, hok, hc⟩ := ha
  simp only [callvT, callvW]
  refine ⟨hok, ?_⟩
  have := hc x h' hf
  simpa using this.mono (fun v h'' ⟨e, f⟩ => e ▸ hk h'' f)
theorem Asks.fr {fv : Value} {M : List Nat} {p : α → Bool} (ha : Asks P enc h M fv p) {h' : Heap} (hf : Fr h h' M) : Asks P enc h' M fv p := by
  obtain ⟨F, caps, rfl, hok, hc⟩ := ha
  exact ⟨F, caps, rfl, hok, fun x h'' hf' => hc x h'' (hf.trans hf')⟩

/-- Where the first is of which something holds; -1: nowhere. -/
def idxOf (p : α → Bool) : List α → Int → Int
  | [], _ => -1
  | x :: xs, i => if p x then i else idxOf p xs (i + 1)
theorem idxOf_drop (p : α → Bool) (xs : List α) (i : Nat) (hi : i < xs.length) : idxOf p (xs.drop i) i = if p xs[i] then (i : Int) else idxOf p (xs.drop (i + 1)) ((i + 1 : Nat) : Int) := by
  rw [List.drop_eq_getElem_cons hi]
  rfl

def irIndexFunc (sz : Nat) : MFn := MFn.mk (MCode.seq (MCode.ops [MOper.mk (some 4) (MOp.p (Pure.mov (Opd.c (Value.int IntKind.i64 0)))) none]) (MCode.seq (MCode.seq (MCode.ops [MOper.mk (some 6) (MOp.p (Pure.mov (Opd.t 0))) none, MOper.mk (some 7) (MOp.p (Pure.len false (Opd.t 6))) none, MOper.mk (some 8) (MOp.p (Pure.mov (Opd.c (Value.int IntKind.i64 0)))) none]) (MCode.block 0 (MCode.loop (MCode.seq (MCode.ops [MOper.mk (some 9) (MOp.p (Pure.bin BinOp.lss (Opd.t 8) (Opd.t 7))) none]) (MCode.seq (MCode.cond (Opd.t 9) MCode.skip (MCode.exit 0)) (MCode.seq (MCode.block 1 (MCode.seq (MCode.ops [MOper.mk (some 10) (MOp.p (Pure.mov (Opd.t 8))) none, MOper.mk (some 5) (MOp.p (Pure.mov (Opd.t 10))) none]) (MCode.seq (MCode.ops [MOper.mk (some 11) (MOp.p (Pure.mov (Opd.t 1))) none, MOper.mk (some 12) (MOp.p (Pure.mov (Opd.t 0))) none, MOper.mk (some 13) (MOp.p (Pure.mov (Opd.t 5))) none, MOper.mk (some 14) (MOp.p (Pure.idxS sz (Opd.t 12) (Opd.t 13))) none, MOper.mk (some 15) (MOp.r (Read.loadN sz (Opd.t 14))) none, MOper.mk (some 16) (MOp.e (Eff.callv (Opd.t 11) [Opd.t 15])) none]) (MCode.cond (Opd.t 16) (MCode.seq (MCode.ops [MOper.mk (some 17) (MOp.p (Pure.mov (Opd.t 5))) none, MOper.mk (some 4) (MOp.p (Pure.mov (Opd.t 17))) none]) MCode.ret) MCode.skip)))) (MCode.ops [MOper.mk (some 18) (MOp.p (Pure.bin BinOp.add (Opd.t 8) (Opd.c (Value.int IntKind.i64 1)))) none, MOper.mk (some 8) (MOp.p (Pure.mov (Opd.t 18))) none]))))))) (MCode.seq (MCode.ops [MOper.mk (some 4) (MOp.p (Pure.mov (Opd.c (Value.int IntKind.i64 (-1))))) none]) MCode.ret))) [MRes.tmp 4] 19

theorem indexFunc_ok {f : FuncId} (hc : compF P f = some (irIndexFunc sz)) (ha : Arr enc sz h A xs) (hn : n = xs.length) (h63 : xs.length < 9223372036854775807) {fv : Value} {p : α → Bool} {M : List Nat} (hp : Asks P enc h M fv p) :
    CallsH P f [.slice A n c, fv] h fun v h' => v = .int .i64 (idxOf p xs 0) ∧ Fr h h' [] := by
  subst hn
  refine enterK hc (Nat.le_of_ble_eq_true rfl) fun K hK => ?_
  simp (disch := first | omega | assumption | ((repeat' (first | exact Fr.refl _ _ | assumption | (refine Fr.via (by assumption) ?_ (by intro i hi hm; first | exact hm | exact List.mem_cons_of_mem _ hm | exact absurd hm List.not_mem_nil | (simp only [List.mem_cons, List.mem_append, List.not_mem_nil, or_false] at hm ⊢; omega))) | refine Fr.push ?_ _ | (refine Fr.setM ?_ ?_ _; · first | exact List.mem_cons_self | (simp only [List.mem_cons, true_or, or_true]; done)) | (refine Fr.setN ?_ ?_ _; · first | omega | (simp only [Array.size_push, Array.size_setIfInBounds]; omega)))); done) | (simp only [Array.size_push, Array.size_setIfInBounds, List.length_cons, List.length_nil, List.mem_cons, List.not_mem_nil, or_false, false_or, not_false_eq_true, not_or]; done) | (simp only [Array.size_push, Array.size_setIfInBounds, List.length_cons, List.length_nil, List.mem_cons, List.not_mem_nil, or_false, false_or, not_or]; omega)) only [go_sem, ↓mwp_block, ↓e_alloc, ↓e_box, ↓e_bslice, storeT_eq, Nat.reduceEqDiff, Nat.reduceAdd, Nat.reduceMul, Nat.reduceSub, Nat.reduceLeDiff, Nat.reduceLT, reduceIte, Int.reduceLT, Int.reduceLE, Int.reduceAdd, Int.reduceSub, Int.reduceMul, Int.reduceEq, Int.reduceToNat, Int.reduceNeg, Int.reduceNe, irIndexFunc]
  refine loop_intro (fun ρ h' => Fr h h' [] ∧ ρ 0 = .slice A xs.length c ∧ ρ 1 = fv ∧ ρ 7 = .int .i64 xs.length ∧ ∃ i : Nat, ρ 8 = .int .i64 i ∧ i ≤ xs.length ∧ idxOf p (xs.drop i) i = idxOf p xs 0) (fun ρ _ => xs.length - (iv (ρ 8)).toNat) ?_ ?_
  · simp (disch := first | omega | assumption | ((repeat' (first | exact Fr.refl _ _ | assumption | (refine Fr.via (by assumption) ?_ (by intro i hi hm; first | exact hm | exact List.mem_cons_of_mem _ hm | exact absurd hm List.not_mem_nil | (simp only [List.mem_cons, List.mem_append, List.not_mem_nil, or_false] at hm ⊢; omega))) | refine Fr.push ?_ _ | (refine Fr.setM ?_ ?_ _; · first | exact List.mem_cons_self | (simp only [List.mem_cons, true_or, or_true]; done)) | (refine Fr.setN ?_ ?_ _; · first | omega | (simp only [Array.size_push, Array.size_setIfInBounds]; omega)))); done) | (simp only [Array.size_push, Array.size_setIfInBounds, List.length_cons, List.length_nil, List.mem_cons, List.not_mem_nil, or_false, false_or, not_false_eq_true, not_or]; done) | (simp only [Array.size_push, Array.size_setIfInBounds, List.length_cons, List.length_nil, List.mem_cons, List.not_mem_nil, or_false, false_or, not_or]; omega)) only [go_sem, ↓mwp_block, ↓e_alloc, ↓e_box, ↓e_bslice, storeT_eq, Nat.reduceEqDiff, Nat.reduceAdd, Nat.reduceMul, Nat.reduceSub, Nat.reduceLeDiff, Nat.reduceLT, reduceIte, Int.reduceLT, Int.reduceLE, Int.reduceAdd, Int.reduceSub, Int.reduceMul, Int.reduceEq, Int.reduceToNat, Int.reduceNeg, Int.reduceNe]
    exact ⟨Fr.refl _ _, 0, rfl, Nat.zero_le _, rfl⟩
  · rintro ρ h' J hJ ⟨hf, e0, e1, e7, i, e8, hi, hx⟩
    simp (disch := first | omega | assumption | ((repeat' (first | exact Fr.refl _ _ | assumption | (refine Fr.via (by assumption) ?_ (by intro i hi hm; first | exact hm | exact List.mem_cons_of_mem _ hm | exact absurd hm List.not_mem_nil | (simp only [List.mem_cons, List.mem_append, List.not_mem_nil, or_false] at hm ⊢; omega))) | refine Fr.push ?_ _ | (refine Fr.setM ?_ ?_ _; · first | exact List.mem_cons_self | (simp only [List.mem_cons, true_or, or_true]; done)) | (refine Fr.setN ?_ ?_ _; · first | omega | (simp only [Array.size_push, Array.size_setIfInBounds]; omega)))); done) | (simp only [Array.size_push, Array.size_setIfInBounds, List.length_cons, List.length_nil, List.mem_cons, List.not_mem_nil, or_false, false_or, not_false_eq_true, not_or]; done) | (simp only [Array.size_push, Array.size_setIfInBounds, List.length_cons, List.length_nil, List.mem_cons, List.not_mem_nil, or_false, false_or, not_or]; omega)) only [go_sem, ↓mwp_block, ↓e_alloc, ↓e_box, ↓e_bslice, storeT_eq, Nat.reduceEqDiff, Nat.reduceAdd, Nat.reduceMul, Nat.reduceSub, Nat.reduceLeDiff, Nat.reduceLT, reduceIte, Int.reduceLT, Int.reduceLE, Int.reduceAdd, Int.reduceSub, Int.reduceMul, Int.reduceEq, Int.reduceToNat, Int.reduceNeg, Int.reduceNe, e8, e7]
    (generalize hg : dcd _ = bb; cases bb <;> (first | replace hg := of_dcd_false hg | replace hg := of_dcd_true hg) <;> (try simp (disch := first | omega | assumption | ((repeat' (first | exact Fr.refl _ _ | assumption | (refine Fr.via (by assumption) ?_ (by intro i hi hm; first | exact hm | exact List.mem_cons_of_mem _ hm | exact absurd hm List.not_mem_nil | (simp only [List.mem_cons, List.mem_append, List.not_mem_nil, or_false] at hm ⊢; omega))) | refine Fr.push ?_ _ | (refine Fr.setM ?_ ?_ _; · first | exact List.mem_cons_self | (simp only [List.mem_cons, true_or, or_true]; done)) | (refine Fr.setN ?_ ?_ _; · first | omega | (simp only [Array.size_push, Array.size_setIfInBounds]; omega)))); done) | (simp only [Array.size_push, Array.size_setIfInBounds, List.length_cons, List.length_nil, List.mem_cons, List.not_mem_nil, or_false, false_or, not_false_eq_true, not_or]; done) | (simp only [Array.size_push, Array.size_setIfInBounds, List.length_cons, List.length_nil, List.mem_cons, List.not_mem_nil, or_false, false_or, not_or]; omega)) only [go_sem, ↓mwp_block, ↓e_alloc, ↓e_box, ↓e_bslice, storeT_eq, Nat.reduceEqDiff, Nat.reduceAdd, Nat.reduceMul, Nat.reduceSub, Nat.reduceLeDiff, Nat.reduceLT, reduceIte, Int.reduceLT, Int.reduceLE, Int.reduceAdd, Int.reduceSub, Int.reduceMul, Int.reduceEq, Int.reduceToNat, Int.reduceNeg, Int.reduceNe, e0, e1, e8]))
    · have hi' : i = xs.length := by omega
      subst hi'
      refine hK _ _ ⟨?_, hf⟩
      rw [← hx, List.drop_length]
      rfl
    · have hlt : i < xs.length := by omega
      obtain ⟨b, off, rfl, hr⟩ := (ha.fr hf (fun _ _ _ => by simp)).at hlt
      simp (disch := first | omega | assumption | ((repeat' (first | exact Fr.refl _ _ | assumption | (refine Fr.via (by assumption) ?_ (by intro i hi hm; first | exact hm | exact List.mem_cons_of_mem _ hm | exact absurd hm List.not_mem_nil | (simp only [List.mem_cons, List.mem_append, List.not_mem_nil, or_false] at hm ⊢; omega))) | refine Fr.push ?_ _ | (refine Fr.setM ?_ ?_ _; · first | exact List.mem_cons_self | (simp only [List.mem_cons, true_or, or_true]; done)) | (refine Fr.setN ?_ ?_ _; · first | omega | (simp only [Array.size_push, Array.size_setIfInBounds]; omega)))); done) | (simp only [Array.size_push, Array.size_setIfInBounds, List.length_cons, List.length_nil, List.mem_cons, List.not_mem_nil, or_false, false_or, not_false_eq_true, not_or]; done) | (simp only [Array.size_push, Array.size_setIfInBounds, List.length_cons, List.length_nil, List.mem_cons, List.not_mem_nil, or_false, false_or, not_or]; omega)) only [go_sem, ↓mwp_block, ↓e_alloc, ↓e_box, ↓e_bslice, storeT_eq, Nat.reduceEqDiff, Nat.reduceAdd, Nat.reduceMul, Nat.reduceSub, Nat.reduceLeDiff, Nat.reduceLT, reduceIte, Int.reduceLT, Int.reduceLE, Int.reduceAdd, Int.reduceSub, Int.reduceMul, Int.reduceEq, Int.reduceToNat, Int.reduceNeg, Int.reduceNe, e0, e1, e8, hr]
      refine hp.call (hf.mono fun _ _ hm => absurd hm List.not_mem_nil) fun h'' hf2 => ?_
      rw [idxOf_drop p xs i hlt] at hx
      cases hpx : p xs[i]
      · simp (disch := first | omega | assumption | ((repeat' (first | exact Fr.refl _ _ | assumption | (refine Fr.via (by assumption) ?_ (by intro i hi hm; first | exact hm | exact List.mem_cons_of_mem _ hm | exact absurd hm List.not_mem_nil | (simp only [List.mem_cons, List.mem_append, List.not_mem_nil, or_false] at hm ⊢; omega))) | refine Fr.push ?_ _ | (refine Fr.setM ?_ ?_ _; · first | exact List.mem_cons_self | (simp only [List.mem_cons, true_or, or_true]; done)) | (refine Fr.setN ?_ ?_ _; · first | omega | (simp only [Array.size_push, Array.size_setIfInBounds]; omega)))); done) | (simp only [Array.size_push, Array.size_setIfInBounds, List.length_cons, List.length_nil, List.mem_cons, List.not_mem_nil, or_false, false_or, not_false_eq_true, not_or]; done) | (simp only [Array.size_push, Array.size_setIfInBounds, List.length_cons, List.length_nil, List.mem_cons, List.not_mem_nil, or_false, false_or, not_or]; omega)) only [go_sem, ↓mwp_block, ↓e_alloc, ↓e_box, ↓e_bslice, storeT_eq, Nat.reduceEqDiff, Nat.reduceAdd, Nat.reduceMul, Nat.reduceSub, Nat.reduceLeDiff, Nat.reduceLT, reduceIte, Int.reduceLT, Int.reduceLE, Int.reduceAdd, Int.reduceSub, Int.reduceMul, Int.reduceEq, Int.reduceToNat, Int.reduceNeg, Int.reduceNe, e8, e0, e1, e7]
        rw [hpx] at hx
        refine hJ _ _ ?_ ?_
        · simp (disch := first | omega | assumption | ((repeat' (first | exact Fr.refl _ _ | assumption | (refine Fr.via (by assumption) ?_ (by intro i hi hm; first | exact hm | exact List.mem_cons_of_mem _ hm | exact absurd hm List.not_mem_nil | (simp only [List.mem_cons, List.mem_append, List.not_mem_nil, or_false] at hm ⊢; omega))) | refine Fr.push ?_ _ | (refine Fr.setM ?_ ?_ _; · first | exact List.mem_cons_self | (simp only [List.mem_cons, true_or, or_true]; done)) | (refine Fr.setN ?_ ?_ _; · first | omega | (simp only [Array.size_push, Array.size_setIfInBounds]; omega)))); done) | (simp only [Array.size_push, Array.size_setIfInBounds, List.length_cons, List.length_nil, List.mem_cons, List.not_mem_nil, or_false, false_or, not_false_eq_true, not_or]; done) | (simp only [Array.size_push, Array.size_setIfInBounds, List.length_cons, List.length_nil, List.mem_cons, List.not_mem_nil, or_false, false_or, not_or]; omega)) only [go_sem, ↓mwp_block, ↓e_alloc, ↓e_box, ↓e_bslice, storeT_eq, Nat.reduceEqDiff, Nat.reduceAdd, Nat.reduceMul, Nat.reduceSub, Nat.reduceLeDiff, Nat.reduceLT, reduceIte, Int.reduceLT, Int.reduceLE, Int.reduceAdd, Int.reduceSub, Int.reduceMul, Int.reduceEq, Int.reduceToNat, Int.reduceNeg, Int.reduceNe, e0, e1, e7]
          exact ⟨hf.trans hf2, i + 1, rfl, by omega, hx⟩
        · simp (disch := first | omega | assumption | ((repeat' (first | exact Fr.refl _ _ | assumption | (refine Fr.via (by assumption) ?_ (by intro i hi hm; first | exact hm | exact List.mem_cons_of_mem _ hm | exact absurd hm List.not_mem_nil | (simp only [List.mem_cons, List.mem_append, List.not_mem_nil, or_false] at hm ⊢; omega))) | refine Fr.push ?_ _ | (refine Fr.setM ?_ ?_ _; · first | exact List.mem_cons_self | (simp only [List.mem_cons, true_or, or_true]; done)) | (refine Fr.setN ?_ ?_ _; · first | omega | (simp only [Array.size_push, Array.size_setIfInBounds]; omega)))); done) | (simp only [Array.size_push, Array.size_setIfInBounds, List.length_cons, List.length_nil, List.mem_cons, List.not_mem_nil, or_false, false_or, not_false_eq_true, not_or]; done) | (simp only [Array.size_push, Array.size_setIfInBounds, List.length_cons, List.length_nil, List.mem_cons, List.not_mem_nil, or_false, false_or, not_or]; omega)) only [go_sem, ↓mwp_block, ↓e_alloc, ↓e_box, ↓e_bslice, storeT_eq, Nat.reduceEqDiff, Nat.reduceAdd, Nat.reduceMul, Nat.reduceSub, Nat.reduceLeDiff, Nat.reduceLT, reduceIte, Int.reduceLT, Int.reduceLE, Int.reduceAdd, Int.reduceSub, Int.reduceMul, Int.reduceEq, Int.reduceToNat, Int.reduceNeg, Int.reduceNe, e8]
          omega
      · simp (disch := first | omega | assumption | ((repeat' (first | exact Fr.refl _ _ | assumption | (refine Fr.via (by assumption) ?_ (by intro i hi hm; first | exact hm | exact List.mem_cons_of_mem _ hm | exact absurd hm List.not_mem_nil | (simp only [List.mem_cons, List.mem_append, List.not_mem_nil, or_false] at hm ⊢; omega))) | refine Fr.push ?_ _ | (refine Fr.setM ?_ ?_ _; · first | exact List.mem_cons_self | (simp only [List.mem_cons, true_or, or_true]; done)) | (refine Fr.setN ?_ ?_ _; · first | omega | (simp only [Array.size_push, Array.size_setIfInBounds]; omega)))); done) | (simp only [Array.size_push, Array.size_setIfInBounds, List.length_cons, List.length_nil, List.mem_cons, List.not_mem_nil, or_false, false_or, not_false_eq_true, not_or]; done) | (simp only [Array.size_push, Array.size_setIfInBounds, List.length_cons, List.length_nil, List.mem_cons, List.not_mem_nil, or_false, false_or, not_or]; omega)) only [go_sem, ↓mwp_block, ↓e_alloc, ↓e_box, ↓e_bslice, storeT_eq, Nat.reduceEqDiff, Nat.reduceAdd, Nat.reduceMul, Nat.reduceSub, Nat.reduceLeDiff, Nat.reduceLT, reduceIte, Int.reduceLT, Int.reduceLE, Int.reduceAdd, Int.reduceSub, Int.reduceMul, Int.reduceEq, Int.reduceToNat, Int.reduceNeg, Int.reduceNe]
        rw [hpx] at hx
        exact hK _ _ ⟨by rw [← hx]; rfl, hf.trans hf2⟩

theorem idxOf_spec (p : α → Bool) : ∀ (xs : List α) (k : Nat), (idxOf p xs k = -1 ∧ ∀ x ∈ xs, p x = false) ∨ ∃ i : Nat, idxOf p xs k = ((k + i : Nat) : Int) ∧ i < xs.length ∧ (∀ x ∈ xs.take i, p x = false) ∧ ∀ x, xs[i]? = some x → p x = true
  | [], k => .inl ⟨rfl, fun x hx => by cases hx⟩
  | x :: xs, k => by
    simp only [idxOf]
    cases hp : p x
    · simp only [Bool.false_eq_true, if_false]
      rw [show (k : Int) + 1 = ((k + 1 : Nat) : Int) by omega]
      rcases idxOf_spec p xs (k + 1) with ⟨h1, h2⟩ | ⟨i, h1, h2, h3, h4⟩
      · exact .inl ⟨h1, fun y hy => by rcases List.mem_cons.1 hy with rfl | hy; exact hp; exact h2 y hy⟩
      · refine .inr ⟨i + 1, by rw [h1]; congr 1; omega, by simpa using h2, fun y hy => ?_, by simpa using h4⟩
        rw [List.take_succ_cons] at hy
        rcases List.mem_cons.1 hy with rfl | hy
        · exact hp
        · exact h3 y hy
    · exact .inr ⟨0, by simp, by simp, by simp, by simp [hp]⟩

end
end Go.Proofs.YtblalmgahfbalaaGreat.MX

/- The engine, part V: things in a row; lists of things in another order. -/
namespace Go.Proofs.YtblalmgahfbalaaGreat.MX
open Go
set_option linter.unusedSimpArgs false
set_option linter.unusedVariables false

section
variable {α : Type} {F : α → HP} {h0 h : Heap} {l : List HP} {X : HP} {zs : List α} {n : Nat}
end

theorem St.dropL {h0 h : Heap} {l : List HP} : ∀ {ps : List HP}, St h0 h (ps ++ l) → St h0 h l
  | [], S => S
  | _ :: ps, S => St.dropL (ps := ps) S.tl
/-- A slice's length and room. -/
theorem St.cap {α : Type} {enc : α → List Value} {sz T : Nat} {h0 h : Heap} {l : List HP} {A : Option Addr} {n c : Nat} {xs : List α} (S : St h0 h (ownA enc sz T (.slice A n c) xs :: l)) : n = xs.length ∧ n ≤ c ∧ c < 9223372036854775808 := by
  rcases S.own with ⟨hv, rfl⟩ | ⟨b, cap, cs, hv, _, hle, h63, _⟩
  · injection hv with e1 e2 e3
    subst e1 e2 e3
    simp
  · injection hv with e1 e2 e3
    subst e1 e2 e3
    exact ⟨rfl, hle, h63⟩

/-! Stores into a slice of the call's own. -/
section
variable {α : Type} {enc : α → List Value} {sz T : Nat} {h0 h : Heap} {l : List HP} {xs : List α}
theorem St.ownAt {A : Option Addr} {n c : Nat} (S : St h0 h (ownA enc sz T (.slice A n c) xs :: l)) (hne : 0 < xs.length) : ∃ b, A = some ⟨b, 0, none⟩ := by
  rcases S.own with ⟨_, rfl⟩ | ⟨b, cap, cs, hv, _⟩
  · simp at hne
  · injection hv with e1 e2 e3
    exact ⟨b, e1⟩
theorem splice_part (hsz : ∀ x, (enc x).length = sz) {i j : Nat} {vs cs : List Value} {x : α} (hi : i < xs.length) (hj : j + vs.length ≤ sz) (hx : enc x = splice (enc xs[i]) j vs) :
    splice (xs.flatMap enc ++ cs) (i * sz + j) vs = (xs.set i x).flatMap enc ++ cs := by
  have hlt : ((xs.take i).flatMap enc).length = i * sz := by rw [flat_length hsz, List.length_take, Nat.min_eq_left (by omega)]
  have h1 : xs.flatMap enc = (xs.take i).flatMap enc ++ (enc xs[i] ++ (xs.drop (i + 1)).flatMap enc) := by
    rw [flat_split enc xs i, List.drop_eq_getElem_cons hi, List.flatMap_cons]
  have he : enc xs[i] = (enc xs[i]).take j ++ (enc xs[i]).drop j := (List.take_append_drop _ _).symm
  have hjl : ((enc xs[i]).take j).length = j := by rw [List.length_take, hsz]; omega
  have hdl : ((enc xs[i]).drop j).length = sz - j := by rw [List.length_drop, hsz]
  have hx2 : enc x = (enc xs[i]).take j ++ vs ++ ((enc xs[i]).drop j).drop vs.length := by
    rw [hx]
    conv => lhs; rw [he]
    exact splice_append _ _ [] j hjl.symm vs (by omega)
  have e1 : xs.flatMap enc ++ cs = ((xs.take i).flatMap enc ++ (enc xs[i]).take j) ++ ((enc xs[i]).drop j ++ ((xs.drop (i + 1)).flatMap enc ++ cs)) := by
    rw [h1]
    conv => lhs; rw [he]
    simp only [List.append_assoc]
  rw [e1, splice_append _ _ [] (i * sz + j) (by rw [List.length_append, hlt, hjl]) vs (by rw [List.length_append]; omega), List.drop_append_of_le_length (by omega), List.set_eq_take_append_cons_drop, if_pos hi, List.flatMap_append, List.flatMap_cons, hx2]
  simp only [List.append_assoc]
theorem st_setPart (hsz : ∀ x, (enc x).length = sz) {b n c i j off m : Nat} {x : α} {vs : List Value} {K : Value → Heap → Prop} {s : Tag h} {t : Tag K} (S : St h0 h (ownA enc sz T (.slice (some ⟨b, 0, none⟩) n c) xs :: l))
    (hi : i < xs.length) (hoff : off = i * sz + j) (hj : j + vs.length ≤ sz) (hm : vs.length = m) (hpl : plainCells vs = true) (hx : enc x = splice (enc xs[i]) j vs)
    (hk : ∀ h', St h0 h' (ownA enc sz T (.slice (some ⟨b, 0, none⟩) n c) (xs.set i x) :: l) → K undef h') : storeT m (.pointer (some ⟨b, off, none⟩)) vs h K s t := by
  have ho := S.own
  rcases ho with ⟨hv, _⟩ | ⟨b', cap, cs, hv, _, hle, h63, hblk, hln⟩
  · cases hv
  injection hv with e1 e2 e3
  cases e1
  subst e2 e3
  have hfl := flat_length hsz xs
  have hroom : i * sz + sz ≤ xs.length * sz := by
    have := Nat.mul_le_mul_right sz (show i + 1 ≤ xs.length from hi)
    rwa [Nat.succ_mul] at this
  rw [storeT_eq, hblk]
  simp only [bind3]
  refine ⟨⟨hm, hpl, ?_⟩, ?_⟩
  · rw [room_00 (by rw [List.length_append, hfl]; omega)]
    trivial
  · rw [hoff, splice_part hsz hi hj hx]
    have hb := blk_lt hblk
    refine hk _ (S.ownUp ((Fr.refl _ _).set (.inl (by simp [blkOf])) _) ?_ (fun b hb => .inl hb))
    refine .inr ⟨b, c, cs, by rw [List.length_set], Nat.zero_le _, by rw [List.length_set]; exact hle, h63, blk_set_eq hb, ?_⟩
    rw [List.length_append, flat_length hsz, List.length_set, ← hfl, ← List.length_append]
    exact hln
theorem st_setOwn (hsz : ∀ x, (enc x).length = sz) {b n c i off m : Nat} {x : α} {vs : List Value} {K : Value → Heap → Prop} {s : Tag h} {t : Tag K} (S : St h0 h (ownA enc sz T (.slice (some ⟨b, 0, none⟩) n c) xs :: l))
    (hi : i < xs.length) (hoff : off = i * sz) (hvs : vs = enc x) (hm : sz = m) (hpl : plainCells vs = true)
    (hk : ∀ h', St h0 h' (ownA enc sz T (.slice (some ⟨b, 0, none⟩) n c) (xs.set i x) :: l) → K undef h') : storeT m (.pointer (some ⟨b, off, none⟩)) vs h K s t := by
  subst hvs
  refine st_setPart hsz (j := 0) S hi hoff (by rw [hsz]; omega) (by rw [hsz]; exact hm) hpl ?_ hk
  have := splice_append [] (enc xs[i]) [] 0 rfl (enc x) (by rw [hsz, hsz]; exact Nat.le_refl _)
  rw [List.nil_append, List.nil_append, List.drop_of_length_le (by rw [hsz, hsz]; exact Nat.le_refl _), List.append_nil] at this
  exact this.symm
end

/-! Lists in another order. -/
theorem pm0 { x : HP} {t M : List HP} (h : (t).Perm M) : (x :: t).Perm (x :: M) := (perm_pick [] x t).trans (List.Perm.cons x h)
theorem pm1 {a x : HP} {t M : List HP} (h : (a :: t).Perm M) : (a :: x :: t).Perm (x :: M) := (perm_pick [a] x t).trans (List.Perm.cons x h)
theorem pm2 {a b x : HP} {t M : List HP} (h : (a :: b :: t).Perm M) : (a :: b :: x :: t).Perm (x :: M) := (perm_pick [a, b] x t).trans (List.Perm.cons x h)
theorem pm3 {a b c x : HP} {t M : List HP} (h : (a :: b :: c :: t).Perm M) : (a :: b :: c :: x :: t).Perm (x :: M) := (perm_pick [a, b, c] x t).trans (List.Perm.cons x h)
theorem pm4 {a b c d x : HP} {t M : List HP} (h : (a :: b :: c :: d :: t).Perm M) : (a :: b :: c :: d :: x :: t).Perm (x :: M) := (perm_pick [a, b, c, d] x t).trans (List.Perm.cons x h)
theorem pm5 {a b c d e x : HP} {t M : List HP} (h : (a :: b :: c :: d :: e :: t).Perm M) : (a :: b :: c :: d :: e :: x :: t).Perm (x :: M) := (perm_pick [a, b, c, d, e] x t).trans (List.Perm.cons x h)
theorem pm6 {a b c d e f x : HP} {t M : List HP} (h : (a :: b :: c :: d :: e :: f :: t).Perm M) : (a :: b :: c :: d :: e :: f :: x :: t).Perm (x :: M) := (perm_pick [a, b, c, d, e, f] x t).trans (List.Perm.cons x h)
theorem pm7 {a b c d e f g x : HP} {t M : List HP} (h : (a :: b :: c :: d :: e :: f :: g :: t).Perm M) : (a :: b :: c :: d :: e :: f :: g :: x :: t).Perm (x :: M) := (perm_pick [a, b, c, d, e, f, g] x t).trans (List.Perm.cons x h)
theorem pm8 {a b c d e f g i x : HP} {t M : List HP} (h : (a :: b :: c :: d :: e :: f :: g :: i :: t).Perm M) : (a :: b :: c :: d :: e :: f :: g :: i :: x :: t).Perm (x :: M) := (perm_pick [a, b, c, d, e, f, g, i] x t).trans (List.Perm.cons x h)
theorem pm9 {a b c d e f g i j x : HP} {t M : List HP} (h : (a :: b :: c :: d :: e :: f :: g :: i :: j :: t).Perm M) : (a :: b :: c :: d :: e :: f :: g :: i :: j :: x :: t).Perm (x :: M) := (perm_pick [a, b, c, d, e, f, g, i, j] x t).trans (List.Perm.cons x h)
theorem pm10 {a b c d e f g i j k x : HP} {t M : List HP} (h : (a :: b :: c :: d :: e :: f :: g :: i :: j :: k :: t).Perm M) : (a :: b :: c :: d :: e :: f :: g :: i :: j :: k :: x :: t).Perm (x :: M) := (perm_pick [a, b, c, d, e, f, g, i, j, k] x t).trans (List.Perm.cons x h)
theorem pm11 {a b c d e f g i j k m x : HP} {t M : List HP} (h : (a :: b :: c :: d :: e :: f :: g :: i :: j :: k :: m :: t).Perm M) : (a :: b :: c :: d :: e :: f :: g :: i :: j :: k :: m :: x :: t).Perm (x :: M) := (perm_pick [a, b, c, d, e, f, g, i, j, k, m] x t).trans (List.Perm.cons x h)
theorem pm12 {a b c d e f g i j k m n x : HP} {t M : List HP} (h : (a :: b :: c :: d :: e :: f :: g :: i :: j :: k :: m :: n :: t).Perm M) : (a :: b :: c :: d :: e :: f :: g :: i :: j :: k :: m :: n :: x :: t).Perm (x :: M) := (perm_pick [a, b, c, d, e, f, g, i, j, k, m, n] x t).trans (List.Perm.cons x h)
/-- A block that was made for some values is a slice of the call's own. -/
theorem St.cellOwn {α : Type} {enc : α → List Value} {sz : Nat} (hsz : ∀ x, (enc x).length = sz) {h0 h : Heap} {l : List HP} {b T : Nat} {ys : List α} {cs : List Value} (S : St h0 h (cellA b cs T :: l)) (hc : cs = ys.flatMap enc) (hl : ys.length < 9223372036854775808) : St h0 h (ownA enc sz T (.slice (some ⟨b, 0, none⟩) ys.length ys.length) ys :: l) := by
  obtain ⟨B, ⟨hB, hb⟩, _, hup⟩ := S.hd
  subst hB
  refine hup _ _ [b] (Fr.refl _ _) ⟨rfl, .inr ⟨b, ys.length, [], rfl, Nat.zero_le _, Nat.le_refl _, hl, ?_, ?_⟩⟩ (fun b' hm => .inl hm)
  · rw [List.append_nil, hb, hc]
  · rw [List.append_nil, flat_length hsz]
theorem draw_inv {P : Program} {Q : MExit → Env → Heap → Prop} {ρ : Env} {h : Heap} {l : List MOper} {s : Sch} {t1 : Tag l} {t2 : Tag s} {t3 : Tag Q} {t4 : Tag ρ} {t5 : Tag h} (I : Heap → Prop) (hI : I h) (hw : schT P I l (Q .normal) s ρ h) : drawT P l s Q ρ h t1 t2 t3 t4 t5 := ⟨I, hI, hw⟩
theorem readT_v {F : Heap → Option Value} {v : Value} {K : Value → Prop} {t : Tag K} (h : Heap) (hF : F h = some v) : readT (fun h' => F h' = some v) F K t = K v := by
  apply propext
  constructor
  · rintro ⟨u, h1, h2⟩
    have := h1 h hF
    rw [hF] at this
    cases this
    exact h2
  · exact fun hk => ⟨v, fun _ e => e, hk⟩
theorem readT_I {I : Heap → Prop} {F : Heap → Option Value} {v : Value} {K : Value → Prop} {t : Tag K} (hI : ∀ h', I h' → F h' = some v) (h : Heap) (hh : I h) : readT I F K t = K v := by
  apply propext
  constructor
  · rintro ⟨u, h1, h2⟩
    have := h1 h hh
    rw [hI h hh] at this
    cases this
    exact h2
  · exact fun hk => ⟨v, hI, hk⟩
theorem cond_cut {P : Program} {b : Bool} {x y : MCode} {T : Env → Heap → Prop} {Q : MExit → Env → Heap → Prop} {ρ : Env} {h : Heap} {s : Tag (mwp P x (qseq T Q) ρ h)} {t : Tag (mwp P y (qseq T Q) ρ h)} (I : Env → Heap → Prop)
    (hX : b = true → ∀ J : Env → Heap → Prop, (∀ ρ h, I ρ h → J ρ h) → mwp P x (qseq J Q) ρ h) (hY : b = false → ∀ J : Env → Heap → Prop, (∀ ρ h, I ρ h → J ρ h) → mwp P y (qseq J Q) ρ h) (hT : ∀ ρ h, I ρ h → T ρ h) :
    condT (.bool b) (mwp P x (qseq T Q) ρ h) (mwp P y (qseq T Q) ρ h) s t := by
  cases b
  · simp only [condT, condW, Bool.false_eq_true, if_false]; exact hY rfl T hT
  · simp only [condT, condW, if_true]; exact hX rfl T hT
theorem seq_cut {P : Program} {a b : MCode} {Q : MExit → Env → Heap → Prop} {ρ : Env} {h : Heap} (I : Env → Heap → Prop) (hw : ∀ J : Env → Heap → Prop, (∀ ρ h, I ρ h → J ρ h) → mwp P a (qseq J Q) ρ h) (hT : ∀ ρ h, I ρ h → mwp P b Q ρ h) : mwp P (.seq a b) Q ρ h := hw _ hT
theorem cut_st {P : Program} {Q : MExit → Env → Heap → Prop} {ρ : Env} {h0 h : Heap} {L : List HP} {l : List MOper} {s : Sch} {t1 : Tag l} {t2 : Tag s} {t3 : Tag Q} {t4 : Tag ρ} {t5 : Tag h} (S : St h0 h L) (I : Env → Heap → Prop)
    (hw : ∀ J : Env → Heap → Prop, (∀ ρ h, I ρ h → J ρ h) → schT P (fun h' => St h0 h' L) l J s ρ h) (hT : ∀ ρ h, I ρ h → Q .normal ρ h) : drawT P l s Q ρ h t1 t2 t3 t4 t5 := ⟨_, S, hw _ hT⟩
end Go.Proofs.YtblalmgahfbalaaGreat.MX

/- The engine, part R: from a walk over heaps to what a row asks. -/
namespace Go.Proofs.YtblalmgahfbalaaGreat.MX
open Go Go.RowKit
theorem toBelow {P : Program} {f : FuncId} {args : List Value} {W : World} (hc : CallsH P f args W.heap fun v h' => v = .bool true ∧ Fr W.heap h' []) :
    Calls P f args.toArray W fun e w' => e = .returned (.bool true) ∧ Below W.heap.size W w' := by
  refine (hc W rfl).mono ?_
  rintro e w' ⟨v, rfl, ha, rfl, hf⟩
  exact ⟨rfl, ha.1, ha.2.1, ha.2.2, hf.size, fun k hk => hf.same k hk (by simp)⟩
theorem wf_i64 {n : Int} (h : (Lit.int .i64 n).wf = true) : -9223372036854775808 ≤ n ∧ n < 9223372036854775808 := by
  simp [Lit.wf, IntKind.min, IntKind.max, IntKind.signed, IntKind.bits] at h
  omega
end Go.Proofs.YtblalmgahfbalaaGreat.MX
