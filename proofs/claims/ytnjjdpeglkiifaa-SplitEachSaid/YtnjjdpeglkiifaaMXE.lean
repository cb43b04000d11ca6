/- The engine, part E: each compiled operation's meaning is the loaded one's, the second half. -/
import Derived.Test.YtnjjdpeglkiifaaMXD
namespace Go.Proofs.Ytnjjdpeglkiifaa.MX
open Go
set_option linter.unusedSimpArgs false
set_option linter.unusedVariables false
variable {P : Program} {N : Nat} {a : Act} {ρ : Env} {w : World} {K : Value → Heap → Prop}

theorem cutV_spec {ad : Option Addr} {sz : Nat} {l h m cap : Int} {v : Value} (hv : cutV ad sz l h m cap = some v) :
    (0 ≤ l ∧ l ≤ h ∧ h ≤ m ∧ m ≤ cap) ∧ v = .slice (if m.toNat = l.toNat then ad else ad.map (·.add (l.toNat * sz))) (h.toNat - l.toNat) (m.toNat - l.toNat) := by
  unfold cutV at hv
  split at hv
  · rename_i hc
    refine ⟨hc, ?_⟩
    cases hv
    have e1 : (m = l) = (m.toNat = l.toNat) := by apply propext; omega
    have e2 : (h - l).toNat = h.toNat - l.toNat := by omega
    have e3 : (m - l).toNat = m.toNat - l.toNat := by omega
    simp only [e1, e2, e3]
  · cases hv

theorem cutS_ok {o : Oper} {T e : TypeId} {x : Operand} {lo hi mx : Option Operand} (ho : o.op = .slice T x lo hi mx) (hu : P.underlying T = some (.slice e)) {sz : Nat} (hs : szOf P e = some sz)
    (hmh : (mx.isSome && hi.isNone) = false) {v : Value} (h : sliceSV sz (a.eval x) (lo.map a.eval) (hi.map a.eval) (mx.map a.eval) = some v) : (execOp a.eval o).run P w = .ok (.value v) w := by
  unfold sliceSV at h
  split at h
  · rename_i ad len cap hx
    obtain ⟨l, hl, h⟩ := bindV_eq h
    obtain ⟨hh, hhh, h⟩ := bindV_eq h
    obtain ⟨m, hm, h⟩ := bindV_eq h
    obtain ⟨hc, rfl⟩ := cutV_spec h
    have hb := bounds_ok (P := P) (w := w) (isS := true) hl hhh hm hc (by cases mx <;> cases hi <;> simp_all)
    simp [execOp, ho, Instr.sliceAt, und_run hu, hx, Instr.slice, hb, szOf_run hs]
  · cases h

theorem cutA_ok {o : Oper} {T e n : Nat} {x : Operand} {lo hi mx : Option Operand} (ho : o.op = .slice T x lo hi mx) (hu : P.underlying T = some (.array n e)) {sz : Nat} (hs : szOf P e = some sz)
    (hmh : (mx.isSome && hi.isNone) = false) {v : Value} (h : sliceAV n sz (a.eval x) (lo.map a.eval) (hi.map a.eval) (mx.map a.eval) = some v) : (execOp a.eval o).run P w = .ok (.value v) w := by
  unfold sliceAV at h
  split at h
  · rename_i ad hx
    obtain ⟨l, hl, h⟩ := bindV_eq h
    obtain ⟨hh, hhh, h⟩ := bindV_eq h
    obtain ⟨m, hm, h⟩ := bindV_eq h
    obtain ⟨hc, rfl⟩ := cutV_spec h
    have hb := bounds_ok (P := P) (w := w) (isS := false) hl hhh hm hc (by cases mx <;> cases hi <;> simp_all)
    simp only [execOp, ho, Instr.sliceAt, Sem.run_bind, und_run hu, hx, Result.andThen_ok, hb, szOf_run hs, Instr.sureAddr, Sem.run_pure]
    split <;> simp
  · cases h

theorem cutP_ok {o : Oper} {T pa e n : Nat} {x : Operand} {lo hi mx : Option Operand} (ho : o.op = .slice T x lo hi mx) (hu' : P.underlying T = some (.pointer pa)) (hu : P.underlying pa = some (.array n e)) {sz : Nat} (hs : szOf P e = some sz)
    (hmh : (mx.isSome && hi.isNone) = false) {v : Value} (h : sliceAV n sz (a.eval x) (lo.map a.eval) (hi.map a.eval) (mx.map a.eval) = some v) : (execOp a.eval o).run P w = .ok (.value v) w := by
  unfold sliceAV at h
  split at h
  · rename_i ad hx
    obtain ⟨l, hl, h⟩ := bindV_eq h
    obtain ⟨hh, hhh, h⟩ := bindV_eq h
    obtain ⟨m, hm, h⟩ := bindV_eq h
    obtain ⟨hc, rfl⟩ := cutV_spec h
    have hb := bounds_ok (P := P) (w := w) (isS := false) hl hhh hm hc (by cases mx <;> cases hi <;> simp_all)
    simp only [execOp, ho, Instr.sliceAt, Instr.slice, Sem.run_bind, und_run hu', und_run hu, hx, Result.andThen_ok, hb, szOf_run hs, asAddr, Sem.run_pure]
    split <;> simp
  · cases h

theorem cutT_ok {o : Oper} {T : TypeId} {x : Operand} {lo hi : Option Operand} (ho : o.op = .slice T x lo hi none) (hu : P.underlying T = some .string)
    {v : Value} (h : sliceTV (a.eval x) (lo.map a.eval) (hi.map a.eval) = some v) : (execOp a.eval o).run P w = .ok (.value v) w := by
  unfold sliceTV at h
  split at h
  · rename_i s hx
    obtain ⟨l, hl, h⟩ := bindV_eq h
    obtain ⟨hh, hhh, h⟩ := bindV_eq h
    split at h
    · rename_i hc
      cases h
      have hb := bounds_ok (P := P) (w := w) (isS := false) (mx := none) (cap := s.size) hl hhh rfl (by omega) (by simp)
      simp [execOp, ho, Instr.sliceAt, und_run hu, hx, Instr.slice, hb]
    · cases h
  · cases h

theorem func_ok {o : Oper} {f : Fn} {fi ca : Array Operand} (ho : o.op = .makeFunc f fi ca) {xs ys : List Value} (hx : fi.toList.map a.eval = xs) (hy : ca.toList.map a.eval = ys) :
    (execOp a.eval o).run P w = .ok (.value (.func f xs.toArray ys.toArray)) w := by
  subst hx; subst hy
  simp [execOp, ho, Instr.makeFunc, ← Array.toList_map]

theorem extr_ok {o : Oper} {x : Operand} {i : Nat} (ho : o.op = .extract x i) {v : Value} (h : extrV (a.eval x) i = some v) : (execOp a.eval o).run P w = .ok (.value v) w := by
  unfold extrV at h
  split at h
  · rename_i vs hx
    simp [execOp, ho, Instr.extract, hx, h]
  · cases h

theorem part_agg {T n : Nat} {cs : Array Value} {off : Nat} (hg : isAggB P T = some true) (hs : szOf P T = some n) : (part T cs off).run P w = .ok (.agg (cs.extract off (off + n))) w := by
  simp [part, isAggB_run hg, szOf_run hs]
theorem part_one {T : Nat} {cs : Array Value} {off : Nat} {v : Value} (hg : isAggB P T = some false) (hv : cs[off]? = some v) : (part T cs off).run P w = .ok v w := by
  simp [part, isAggB_run hg, hv]

theorem field_ok {o : Oper} {T : TypeId} {x : Operand} {f : Nat} (ho : o.op = .field T x f) {fs : Array Field} (hu : P.underlying T = some (.struct fs)) {fd : Field} (hf : fs.toList[f]? = some fd)
    {sz : Nat} (hs : szOf P fd.type = some sz) {g : Bool} (hg : isAggB P fd.type = some g) {v : Value} (h : fieldV fd.offset sz g (a.eval x) = some v) : (execOp a.eval o).run P w = .ok (.value v) w := by
  unfold fieldV at h
  have hf' : fs[f]? = some fd := by rw [← Array.getElem?_toList]; exact hf
  split at h
  · rename_i cs hx
    cases g with
    | true => simp at h; subst h; simp [execOp, ho, Instr.field, und_run hu, hf', hx, asAgg, part_agg hg hs]
    | false => simp at h; simp [execOp, ho, Instr.field, und_run hu, hf', hx, asAgg, part_one hg h]
  · cases h

theorem idxG_ok {o : Oper} {T e n : Nat} {x i : Operand} (ho : o.op = .index T x i) (hu : P.underlying T = some (.array n e)) {sz : Nat} (hs : szOf P e = some sz) {g : Bool} (hg : isAggB P e = some g)
    {v : Value} (h : idxGV n sz g (a.eval x) (a.eval i) = some v) : (execOp a.eval o).run P w = .ok (.value v) w := by
  unfold idxGV at h
  split at h
  · rename_i cs k q hx hi
    split at h
    · rename_i hr
      cases g with
      | true => simp at h; subst h; simp [execOp, ho, Instr.index, und_run hu, hx, hi, asIntOf, hr, szOf_run hs, part_agg hg hs]
      | false => simp at h; simp [execOp, ho, Instr.index, und_run hu, hx, hi, asIntOf, hr, szOf_run hs, part_one hg h]
    · cases h
  · cases h

theorem idxT_ok {o : Oper} {T : TypeId} {x i : Operand} (ho : o.op = .index T x i) (hu : P.underlying T = some .string)
    {v : Value} (h : idxTV (a.eval x) (a.eval i) = some v) : (execOp a.eval o).run P w = .ok (.value v) w := by
  unfold idxTV at h
  split at h
  · rename_i s k q hx hi
    split at h
    · rename_i hr
      cases h
      have hlt : q.toNat < s.size := by omega
      have : s[q.toNat]? = some (s[q.toNat]'hlt) := by simp [hlt]
      simp [execOp, ho, Instr.index, und_run hu, hx, hi, asIntOf, hr.1, this]
    · cases h
  · cases h

theorem conv_ok {o : Oper} {s d : TypeId} {x : Operand} (ho : o.op = .convert s d x) {k k' : IntKind} (h1 : P.underlying s = some (.int k')) (h2 : P.underlying d = some (.int k)) {v : Value} (h : convV k (a.eval x) = some v) :
    (execOp a.eval o).run P w = .ok (.value v) w := by
  unfold convV at h
  split at h
  · rename_i hx; cases h; simp [execOp, ho, convert, und_run h1, und_run h2, hx, Conv.intToInt]
  · cases h

theorem load1_ok {o : Oper} {T : TypeId} {x : Operand} (ho : o.op = .load T x) (hg : isAggB P T = some false) {v : Value} (h : rd1 w.heap (a.eval x) = some v) :
    (execOp a.eval o).run P w = .ok (.value v) w := by
  obtain ⟨b, off, hv, hc⟩ := rd1_spec h
  simp [execOp, ho, Instr.loadAt, hv, Instr.sureAddr, loadVar, isAggB_run hg, hc]

theorem loadN_ok {o : Oper} {T : TypeId} {x : Operand} (ho : o.op = .load T x) (hg : isAggB P T = some true) {n : Nat} (hs : szOf P T = some n) {v : Value}
    (h : bindV (rdA w.heap (a.eval x) n) (fun cs => some (Value.agg cs.toArray)) = some v) : (execOp a.eval o).run P w = .ok (.value v) w := by
  obtain ⟨cs, hc, h⟩ := bindV_eq h
  cases h
  obtain ⟨b, off, hv, hl, hr, _⟩ := rdA_spec (P := P) hc
  simp [execOp, ho, Instr.loadAt, hv, Instr.sureAddr, loadVar, isAggB_run hg, szOf_run hs, hr]

theorem store_ok {o : Oper} {T : TypeId} {x y : Operand} (ho : o.op = .store T x y) {n : Nat} (hs : szOf P T = some n) (hl : (cellsOf (a.eval y)).length = n)
    (h : wrW w.heap (a.eval x) (cellsOf (a.eval y)) fun h' => K undef h') : OpOut P o a w K := by
  obtain ⟨b, off, w', hv, hr, ha, hk⟩ := wrW_run (P := P) h
  refine .inr (.inl ⟨w', ?_, ha, hk⟩)
  have hl' : (a.eval y).cells.size = n := by simpa [cellsOf] using hl
  simp only [cellsOf] at hr
  simp [execOp, ho, Instr.storeAt, hv, Instr.sureAddr, storeVar, szOf_run hs, hl', hr]

theorem alike_alloc (w : World) (o : Obj) : Alike w (w.alloc o) := ⟨rfl, rfl, rfl⟩

theorem alloc_ok {o : Oper} {T : TypeId} (ho : o.op = .alloc T) {z : List Value} (hz : zeroL P T = some z) (hk : K (.pointer (some ⟨w.heap.size, 0, none⟩)) (w.heap.push (.cells z.toArray T (0, 0)))) : OpOut P o a w K := by
  obtain ⟨v, hv, hc⟩ := zeroL_run hz w
  refine OpOut.value' (w.alloc (.cells z.toArray T (0, 0))) ?_ (alike_alloc _ _) hk
  simp [execOp, ho, Instr.alloc, hv, newVar, newRow, hc]

theorem box_ok {o : Oper} {T : TypeId} {x : Operand} (ho : o.op = .box T x) (hk : K (.pointer (some ⟨w.heap.size, 0, none⟩)) (w.heap.push (.cells (cellsOf (a.eval x)).toArray T (0, 0)))) : OpOut P o a w K := by
  refine OpOut.value' (w.alloc (.cells (cellsOf (a.eval x)).toArray T (0, 0))) ?_ (alike_alloc _ _) hk
  simp [execOp, ho, Instr.box, newVar, newRow, cellsOf]

theorem foldl_splice (off : Nat) : ∀ (vs : List Value) (k : Nat) (cs : Array Value),
    ((vs.zipIdx k).foldl (fun cs (p : Value × Nat) => cs.setIfInBounds (off + p.2) p.1) cs).toList = splice cs.toList (off + k) vs
  | [], _, _ => rfl
  | v :: vs, k, cs => by
    simp only [List.zipIdx_cons, List.foldl_cons, splice]
    rw [foldl_splice off vs (k + 1)]
    simp [Nat.add_assoc]

theorem fill_ok {place : Nat → Option (Nat × Nat)} {N : Nat} {a : Act} {ρ : Env} (hrel : Rel N a ρ) : ∀ {parts : List (Nat × Operand)} {ps : List (Nat × Nat × Opd)} {zero : List Value} {cs : List Value},
    partsC N place parts = some ps → fillL zero (ps.map fun p => (p.1, p.2.1, ev ρ p.2.2)) = some cs →
    Instr.fill place zero.toArray (parts.map fun p => (p.1, a.eval p.2)) = some cs.toArray
  | [], ps, zero, cs, hp, hf => by
    cases hp
    simp only [List.map_nil, fillL, Option.some.injEq] at hf
    subst hf
    rfl
  | (i, x) :: rest, ps, zero, cs, hp, hf => by
    simp only [partsC] at hp
    obtain ⟨p, h1, hp⟩ := bindV_eq hp
    obtain ⟨y, h2, hp⟩ := bindV_eq hp
    obtain ⟨r, h3, hp⟩ := bindV_eq hp
    cases hp
    obtain ⟨off, size⟩ := p
    simp only [List.map_cons, fillL] at hf
    split at hf
    · rename_i hc
      have he := opd_ev hrel h2
      have ih := fill_ok hrel h3 hf
      simp only [List.map_cons, Instr.fill, h1, he]
      have hsz : (ev ρ y).cells.size = size := by simpa [cellsOf] using hc.1
      rw [if_neg (by simp only [hsz, ne_eq, not_true_eq_false, List.size_toArray, Bool.or_eq_true, decide_eq_true_eq, false_or]; simp; omega)]
      have hfold := foldl_splice off (ev ρ y).cells.toList 0 zero.toArray
      have : Array.foldl (fun cs (p : Value × Nat) => cs.setIfInBounds (off + p.2) p.1) zero.toArray (ev ρ y).cells.zipIdx = (splice zero off (cellsOf (ev ρ y))).toArray := by
        apply Array.toList_inj.1
        rw [← Array.foldl_toList, Array.toList_zipIdx]
        simpa [cellsOf] using hfold
      simp only [this]
      exact ih
    · cases hf

end Go.Proofs.Ytnjjdpeglkiifaa.MX
