/- The engine, part Q: '==' on structs and arrays. -/
import Derived.Test.YtnjjdpeglkiifaaMXF
namespace Go.Proofs.Ytnjjdpeglkiifaa.MX
open Go
set_option linter.unusedSimpArgs false
set_option linter.unusedVariables false
variable {P : Program} {N : Nat} {a : Act} {ρ : Env} {w : World} {K : Value → Heap → Prop}

theorem eqK_length : ∀ {ks : List CK} {xs ys : List Value} {b : Bool}, eqK ks xs ys = some b → xs.length = ks.length ∧ ys.length = ks.length
  | [], [], [], b, h => ⟨rfl, rfl⟩
  | k :: ks, x :: xs, y :: ys, b, h => by
    simp only [eqK] at h
    obtain ⟨b1, h1, h⟩ := bindV_eq h
    obtain ⟨b2, h2, h⟩ := bindV_eq h
    have := eqK_length h2
    simp [this.1, this.2]
  | [], [], _ :: _, b, h => by cases h
  | [], _ :: _, _, b, h => by cases h
  | _ :: _, [], _, b, h => by cases h
  | _ :: _, _ :: _, [], b, h => by cases h

theorem eqK_append : ∀ {k1 k2 : List CK} {xs ys : List Value} {b : Bool}, eqK (k1 ++ k2) xs ys = some b →
    ∃ b1 b2, eqK k1 (xs.take k1.length) (ys.take k1.length) = some b1 ∧ eqK k2 (xs.drop k1.length) (ys.drop k1.length) = some b2 ∧ b = (b1 && b2)
  | [], k2, xs, ys, b, h => ⟨true, b, by simp [eqK], by simpa using h, by simp⟩
  | k :: k1, k2, x :: xs, y :: ys, b, h => by
    simp only [List.cons_append, eqK] at h
    obtain ⟨b1, h1, h⟩ := bindV_eq h
    obtain ⟨b2, h2, h⟩ := bindV_eq h
    cases h
    obtain ⟨c1, c2, e1, e2, rfl⟩ := eqK_append h2
    refine ⟨b1 && c1, c2, ?_, by simpa using e2, by simp [Bool.and_assoc]⟩
    simp only [List.length_cons, List.take_succ_cons, eqK, h1, e1, bindV]
  | _ :: _, _, [], _, b, h => by cases h
  | _ :: _, _, _ :: _, [], b, h => by cases h

/-- A type's value, of its cells. -/
def mkV (P : Program) (t : TypeId) (cs : List Value) : Value :=
  match isAggB P t with
  | some true => .agg cs.toArray
  | _ => cs.headD undef

theorem part_run {t n : Nat} {cs : List Value} {off : Nat} (hs : szOf P t = some n) (h0 : isAggB P t = some false → n = 1) (hg : ∃ g, isAggB P t = some g) (hl : off + n ≤ cs.length) : (part t cs.toArray off).run P w = .ok (mkV P t ((cs.drop off).take n)) w := by
  obtain ⟨g, hg⟩ := hg
  cases g with
  | true =>
    rw [part_agg hg hs]
    have : (List.take (off + n - off) (List.drop off cs)) = (cs.drop off).take n := by congr 1; omega
    simp [mkV, hg, this]
  | false =>
    have h1 := h0 hg
    subst h1
    have hlt : off < cs.length := by omega
    have hv : cs.toArray[off]? = some cs[off] := by simp [hlt]
    rw [part_one hg hv]
    have : cs.drop off = cs[off] :: cs.drop (off + 1) := List.drop_eq_getElem_cons hlt
    simp only [mkV, hg]
    rw [this]
    rfl

theorem kinds_agg {d t : Nat} {ks : List CK} (h : kindsT P d t = some ks) : (∃ g, isAggB P t = some g) ∧ (isAggB P t = some false → ks.length = 1) := by
  cases d with
  | zero => cases h
  | succ d =>
    simp only [kindsT] at h
    unfold isAggB
    split at h
    · rename_i k hu; cases h; simp only [hu]; exact ⟨⟨false, rfl⟩, fun _ => rfl⟩
    · rename_i hu; cases h; simp only [hu]; exact ⟨⟨false, rfl⟩, fun _ => rfl⟩
    · rename_i hu; cases h; simp only [hu]; exact ⟨⟨false, rfl⟩, fun _ => rfl⟩
    · rename_i fs hu
      simp only [hu]
      exact ⟨⟨true, rfl⟩, fun h => by cases h⟩
    · rename_i n e hu
      simp only [hu]
      exact ⟨⟨true, rfl⟩, fun h => by cases h⟩
    · cases h

theorem eqK_one {k : CK} {xs ys : List Value} {b : Bool} (h : eqK [k] xs ys = some b) : ∃ x y, xs = [x] ∧ ys = [y] ∧ cellEq k x y = some b := by
  obtain ⟨h1, h2⟩ := eqK_length h
  obtain ⟨x, rfl⟩ := List.length_eq_one_iff.1 h1
  obtain ⟨y, rfl⟩ := List.length_eq_one_iff.1 h2
  simp only [eqK] at h
  obtain ⟨b1, hb, h⟩ := bindV_eq h
  cases h
  exact ⟨x, y, rfl, rfl, by simpa using hb⟩
theorem cellEq_i {x y : Value} {b : Bool} (h : cellEq .i x y = some b) : ∃ k p q, x = .int k p ∧ y = .int k q ∧ b = (p == q) := by
  cases x <;> cases y <;> simp [cellEq] at h
  obtain ⟨rfl, h⟩ := h
  exact ⟨_, _, _, rfl, rfl, h.symm⟩
theorem cellEq_b {x y : Value} {b : Bool} (h : cellEq .b x y = some b) : ∃ p q, x = .bool p ∧ y = .bool q ∧ b = (p == q) := by
  cases x <;> cases y <;> simp [cellEq] at h
  exact ⟨_, _, rfl, rfl, h.symm⟩
theorem cellEq_s {x y : Value} {b : Bool} (h : cellEq .s x y = some b) : ∃ p q, x = .string p ∧ y = .string q ∧ b = (p.toList == q.toList) := by
  cases x <;> cases y <;> simp [cellEq] at h
  exact ⟨_, _, rfl, rfl, h.symm⟩

theorem kinds_ok : ∀ (d : Nat) {t : TypeId} {ks : List CK} {xs ys : List Value} {b : Bool} (w : World) (m : Nat), kindsT P d t = some ks → eqK ks xs ys = some b →
    (Op.equalIn (d + m) t (mkV P t xs) (mkV P t ys)).run P w = .ok b w
  | 0, t, ks, xs, ys, b, w, m, hk, he => by cases hk
  | d + 1, t, ks, xs, ys, b, w, m, hk, he => by
    rw [show d + 1 + m = (d + m) + 1 by omega]
    simp only [kindsT] at hk
    split at hk
    · rename_i k hu
      cases hk
      have hag : isAggB P t = some false := by simp [isAggB, hu]
      obtain ⟨x, y, rfl, rfl, h1⟩ := eqK_one he
      obtain ⟨k', p, q, rfl, rfl, rfl⟩ := cellEq_i h1
      simp only [mkV, hag, List.headD_cons]
      rw [run_equalIn_int _ _ _ _ _ _ _ hu]
    · rename_i hu
      cases hk
      have hag : isAggB P t = some false := by simp [isAggB, hu]
      obtain ⟨x, y, rfl, rfl, h1⟩ := eqK_one he
      obtain ⟨p, q, rfl, rfl, rfl⟩ := cellEq_b h1
      simp only [mkV, hag, List.headD_cons]
      rw [run_equalIn_bool' _ _ _ _ _ hu]
    · rename_i hu
      cases hk
      have hag : isAggB P t = some false := by simp [isAggB, hu]
      obtain ⟨x, y, rfl, rfl, h1⟩ := eqK_one he
      obtain ⟨p, q, rfl, rfl, rfl⟩ := cellEq_s h1
      simp only [mkV, hag, List.headD_cons]
      rw [run_equalIn_string _ _ _ _ _ hu]
    · rename_i fs hu
      split at hk
      · cases hk
      · rename_i hst
        have hag : isAggB P t = some true := by simp [isAggB, hu]
        have hfo : P.fieldsOf t = fs := by simp [Program.fieldsOf, hu]
        simp only [mkV, hag]
        rw [run_equalIn_struct w (d + m) t _ _ (by rw [hfo]; exact hu) (by simpa using hst), hfo]
        have key : ∀ (l : List Field) (off : Nat) (ks : List CK) (b : Bool), kindsFs P (kindsT P d) l off = some ks → eqK ks (xs.drop off) (ys.drop off) = some b →
            (Op.eqFields (d + m) xs.toArray ys.toArray l).run P w = .ok b w := by
          intro l
          induction l with
          | nil =>
            intro off ks b hk he
            cases hk
            have := eqK_length he
            have e1 : xs.drop off = [] := List.eq_nil_of_length_eq_zero this.1
            have e2 : ys.drop off = [] := List.eq_nil_of_length_eq_zero this.2
            rw [e1, e2] at he
            cases he
            rfl
          | cons f l ih =>
            intro off ks b hk he
            simp only [kindsFs] at hk
            split at hk
            · rename_i hof
              obtain ⟨k, h1, hk⟩ := bindV_eq hk
              obtain ⟨n, h2, hk⟩ := bindV_eq hk
              split at hk
              · rename_i hkn
                obtain ⟨kr, h3, hk⟩ := bindV_eq hk
                cases hk
                obtain ⟨b1, b2, e1, e2, rfl⟩ := eqK_append he
                have hl := eqK_length he
                simp only [List.length_drop, List.length_append] at hl
                obtain ⟨hg, hg1⟩ := kinds_agg h1
                obtain ⟨hkn, hpos⟩ := hkn
                have hlx : off + n ≤ xs.length := by omega
                have hly : off + n ≤ ys.length := by omega
                obtain ⟨hof1, hof2⟩ := hof
                subst hof1
                have hne : f.name ≠ "_" := by simpa using hof2
                have p1 := part_run (P := P) (w := w) (cs := xs) h2 (fun h => by rw [← hkn]; exact hg1 h) hg hlx
                have p2 := part_run (P := P) (w := w) (cs := ys) h2 (fun h => by rw [← hkn]; exact hg1 h) hg hly
                rw [hkn] at e1 e2
                have p3 := kinds_ok d w m h1 e1
                simp only [Op.eqFields, ne_eq, hne, not_false_eq_true, if_true, Sem.run_bind, p1, p2, p3, Result.andThen_ok]
                cases b1 with
                | false => simp
                | true =>
                  rw [List.drop_drop, List.drop_drop] at e2
                  simpa using ih (f.offset + n) kr b2 h3 e2
              · cases hk
            · cases hk
        have := key fs.toList 0 ks b hk (by simpa using he)
        exact this
    · rename_i n e hu
      obtain ⟨k, h1, hk⟩ := bindV_eq hk
      obtain ⟨sz, h2, hk⟩ := bindV_eq hk
      split at hk
      · rename_i hkn
        cases hk
        obtain ⟨hkn, hpos⟩ := hkn
        have hag : isAggB P t = some true := by simp [isAggB, hu]
        obtain ⟨hg, hg1⟩ := kinds_agg h1
        simp only [mkV, hag]
        simp only [Op.equalIn, Sem.run_bind, und_run hu, Result.andThen_ok, szOf_run h2]
        have key : ∀ (n i : Nat) (b : Bool) (w : World), eqK (copiesK k n) (xs.drop (i * sz)) (ys.drop (i * sz)) = some b →
            (forIn (m := Sem) (List.range' i n) ((none : Option Bool), ()) fun i _ => do
              let a ← part e xs.toArray (i * sz)
              let c ← part e ys.toArray (i * sz)
              let r ← Op.equalIn (d + m) e a c
              if (!r) = true then pure (ForInStep.done (some false, ())) else pure (ForInStep.yield (none, ()))).run P w = .ok (if b then none else some false, ()) w := by
          intro n
          induction n with
          | zero =>
            intro i b w he
            simp only [copiesK] at he
            have := eqK_length he
            have e1 : xs.drop (i * sz) = [] := List.eq_nil_of_length_eq_zero this.1
            have e2 : ys.drop (i * sz) = [] := List.eq_nil_of_length_eq_zero this.2
            rw [e1, e2] at he
            cases he
            rfl
          | succ n ih =>
            intro i b w he
            simp only [copiesK] at he
            obtain ⟨b1, b2, e1, e2, rfl⟩ := eqK_append he
            have hl := eqK_length he
            simp only [List.length_drop, List.length_append] at hl
            have p1 := part_run (P := P) (w := w) (cs := xs) (off := i * sz) h2 (fun h => by rw [← hkn]; exact hg1 h) hg (by omega)
            have p2 := part_run (P := P) (w := w) (cs := ys) (off := i * sz) h2 (fun h => by rw [← hkn]; exact hg1 h) hg (by omega)
            rw [hkn] at e1 e2
            have p3 := kinds_ok d w m h1 e1
            rw [List.range'_succ]
            simp only [List.forIn_cons, Sem.run_bind, p1, p2, p3, Result.andThen_ok]
            cases b1 with
            | false => simp
            | true =>
              rw [List.drop_drop, List.drop_drop] at e2
              have := ih (i + 1) b2 w (by rw [Nat.succ_mul]; exact e2)
              simpa using this
        rw [Std.Legacy.Range.forIn_eq_forIn_range']
        have hk2 := key n 0 b w (by simpa using he)
        simp only [Std.Legacy.Range.size, Nat.sub_zero, Nat.add_sub_cancel, Nat.div_one]
        rw [hk2]
        cases b <;> rfl
      · cases hk
    · cases hk

theorem eqA_ok {o : Oper} {op : BinOp} {T yT : TypeId} {x y : Operand} (ho : o.op = .binOp op T x y yT) (hag : isAggB P T = some true) (hgt : P.eqGuardType P.depth T = false) {ks : List CK} (hk : kindsT P 9 T = some ks)
    {neg : Bool} (hop : op = if neg then .neq else .eql) {v : Value} (h : bindV (eqAV ks (a.eval x) (a.eval y)) (fun b => some (Value.bool (if neg then !b else b))) = some v) :
    (execOp a.eval o).run P w = .ok (.value v) w := by
  obtain ⟨b, hb, hv⟩ := bindV_eq h
  cases hv
  unfold eqAV at hb
  split at hb
  · rename_i xs ys hx hy
    have he := kinds_ok 9 w 9991 hk hb
    simp only [mkV, hag, Array.toArray_toList] at he
    have hg := run_eqGuard_agg (P := P) w op T x y xs ys hgt
    simp only [execOp, ho, hx, hy, Sem.run_bind, hg, Result.andThen_ok]
    subst hop
    cases neg
    · simp only [Bool.false_eq_true, if_false]
      rw [run_eql_struct, show (10000 : Nat) = 9 + 9991 from rfl, he]
      rfl
    · simp only [if_true]
      rw [run_neq_struct, show (10000 : Nat) = 9 + 9991 from rfl, he]
      rfl
  · cases hb

theorem clear_ok {o : Oper} {T e : TypeId} {x : Operand} {cl : Call} (ho : o.op = .call cl) (hcl : cl.callee = .builtin .clear) (hx : cl.args.toList = [x]) (ht : cl.argTypes[0]? = some T) (hu : P.underlying T = some (.slice e))
    {z : List Value} (hz : zeroL P e = some z) (h0 : 0 < z.length) (h : clearW z (a.eval x) w.heap K) : OpOut P o a w K := by
  have hargs : cl.args.map a.eval = #[a.eval x] := by
    apply Array.toList_inj.1
    simp [hx]
  obtain ⟨zv, hzr, hzc⟩ := zeroL_run hz w
  unfold clearW at h
  split at h
  · rename_i base n c hxv
    split at h
    · rename_i ad
      split at h
      · rename_i hn
        subst hn
        refine OpOut.value' w ?_ (.refl w) h
        simp [execOp, ho, resolve, hcl, hargs, invoke, builtin, Builtin.clear_, ht, und_run hu, hxv]
      · rename_i hn
        obtain ⟨b, off, w', hv, hr, ha, hk⟩ := wrW_run (P := P) h
        cases hv
        refine OpOut.value' w' ?_ ha hk
        obtain ⟨n, rfl⟩ := Nat.exists_eq_succ_of_ne_zero hn
        simp [execOp, ho, resolve, hcl, hargs, invoke, builtin, Builtin.clear_, ht, und_run hu, hxv, hzr, hzc, zeroCells_eq z h0, hr]
    · refine OpOut.value' w ?_ (.refl w) h
      simp [execOp, ho, resolve, hcl, hargs, invoke, builtin, Builtin.clear_, ht, und_run hu, hxv]
  · exact h.elim

end Go.Proofs.Ytnjjdpeglkiifaa.MX
