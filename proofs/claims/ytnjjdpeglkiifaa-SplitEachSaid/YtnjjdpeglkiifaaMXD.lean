/- The engine, part D: each compiled operation's meaning is the loaded one's. -/
import Derived.Test.YtnjjdpeglkiifaaMXC
namespace Go.Proofs.Ytnjjdpeglkiifaa.MX
open Go
set_option linter.unusedSimpArgs false
set_option linter.unusedVariables false
variable {P : Program} {N : Nat} {a : Act} {ρ : Env} {w : World} {K : Value → Heap → Prop}

theorem pureOut {o : Oper} {v : Option Value} (hk : bindO v fun v => K v w.heap) (hr : ∀ x, v = some x → (execOp a.eval o).run P w = .ok (.value x) w) : OpOut P o a w K := by
  obtain ⟨x, hx, hk⟩ := bindO_eq hk
  exact OpOut.value (hr x hx) hk

theorem pick_ok {c x y v : Value} (h : pickV c x y = some v) : ((do pure (.value (if ← asBool c then x else y)) : Sem Next)).run P w = .ok (.value v) w := by
  unfold pickV at h
  split at h
  · cases h; simp [asBool]
  · cases h

theorem nil_ok {o : Oper} {x : Operand} (ho : o.op = .nilCheck x) {v : Value} (h : nilV (a.eval x) = some v) : (execOp a.eval o).run P w = .ok (.value v) w := by
  unfold nilV at h
  simp only [execOp, ho]
  split at h <;> first | (cases h; done) | skip
  all_goals (rename_i hx; cases h; rw [hx]; rfl)

theorem intBin_ok {op : BinOp} {k : IntKind} {x y : Int} {v : Value} (h : intBin op k x y = some v) :
    (match op with
    | .add | .sub | .mul => Op.intArith op k x y
    | .quo | .rem => Op.intDiv op k x y
    | .and | .or | .xor | .andNot => Op.intBits op k x y
    | _ => Op.intCmp op x y).run P w = .ok v w := by
  unfold intBin at h
  split at h <;> first | (cases h; done) | (cases h; simp [Op.intArith, Op.intBits, Op.intCmp]; done) | skip
  all_goals (split at h <;> first | (cases h; done) | skip)
  all_goals (cases h; rename_i hb; simp [Op.intDiv, hb])

theorem binV_ok {op : BinOp} {T : TypeId} {x y v : Value} (h : binV op x y = some v) : (binOp op T x y).run P w = .ok v w := by
  unfold binV at h
  split at h
  · rename_i k p k' q
    split at h
    · split at h
      · cases h
      · rename_i hq; cases h; simp [binOp, Op.shift, hq]
    · split at h
      · cases h
      · rename_i hq; cases h; simp [binOp, Op.shift, hq]
    · rename_i h1 h2
      split at h
      · rename_i hk
        subst hk
        have := intBin_ok (P := P) (w := w) h
        unfold binOp
        cases op <;> first | (simp at h1; done) | (simp at h2; done) | (simp only [ne_eq, not_true_eq_false, if_false] ; exact this)
      · cases h
  · rename_i p q
    split at h
    · cases h; simp [binOp, Op.stringOp]
    · cases h; simp [binOp, Op.stringOp]
    · cases h
  · cases h

theorem eqGuard_int {op : BinOp} {T : TypeId} {x y : Operand} {k k' : IntKind} {p q : Int} : (eqGuard op T x y (.int k p) (.int k' q)).run P w = .ok () w := by
  unfold eqGuard
  split <;> simp
theorem eqGuard_str {op : BinOp} {T : TypeId} {x y : Operand} {p q : ByteArray} : (eqGuard op T x y (.string p) (.string q)).run P w = .ok () w := by
  unfold eqGuard
  split <;> simp

theorem bin_ok {o : Oper} {op : BinOp} {T yT : TypeId} {x y : Operand} (ho : o.op = .binOp op T x y yT) {v : Value} (h : binV op (a.eval x) (a.eval y) = some v) :
    (execOp a.eval o).run P w = .ok (.value v) w := by
  simp only [execOp, ho]
  have h2 := binV_ok (P := P) (w := w) (T := T) h
  unfold binV at h
  split at h
  · rename_i hx hy
    rw [hx, hy] at h2 ⊢
    simp [eqGuard_int, h2]
  · rename_i hx hy
    rw [hx, hy] at h2 ⊢
    simp [eqGuard_str, h2]
  · cases h

theorem eqGuard_eqV {op : BinOp} {T : TypeId} {x y : Operand} {k : EK} {u v : Value} {b : Bool} (h : eqV k u v = some b) : (eqGuard op T x y u v).run P w = .ok () w := by
  unfold eqV at h
  unfold eqGuard
  split at h <;> first | (cases h; done) | (split <;> simp)

def ekOk : EK → TypeDesc → Bool
  | .b, .bool => true
  | .p, .pointer _ => true
  | .s, .slice _ => true
  | .m, .map _ _ => true
  | .f, .func _ _ _ => true
  | _, _ => false

theorem equalIn_ok {T : TypeId} {k : EK} {u v : Value} {b : Bool} (h : eqV k u v = some b) {d : TypeDesc} (hu : P.underlying T = some d) (hd : ekOk k d = true) (n : Nat) :
    (Op.equalIn (n + 1) T u v).run P w = .ok b w := by
  unfold eqV at h
  unfold Op.equalIn
  split at h <;> first | (cases h; done) | skip
  all_goals
    cases h
    cases d <;> first | (cases hd; done) | (simp [und_run hu]; done)

theorem equal_ok {T : TypeId} {k : EK} {u v : Value} {b : Bool} (h : eqV k u v = some b) {d : TypeDesc} (hu : P.underlying T = some d) (hd : ekOk k d = true) :
    (Op.equal T u v).run P w = .ok b w := equalIn_ok h hu hd 9999

theorem eq_ok {o : Oper} {op : BinOp} {T yT : TypeId} {x y : Operand} (ho : o.op = .binOp op T x y yT) {k : EK} {d : TypeDesc} (hu : P.underlying T = some d) (hd : ekOk k d = true)
    {neg : Bool} (hop : op = if neg then .neq else .eql) {v : Value} (h : bindV (eqV k (a.eval x) (a.eval y)) (fun b => some (Value.bool (if neg then !b else b))) = some v) :
    (execOp a.eval o).run P w = .ok (.value v) w := by
  obtain ⟨b, hb, hv⟩ := bindV_eq h
  cases hv
  have he := equal_ok (P := P) (w := w) hb hu hd
  have hg := eqGuard_eqV (P := P) (w := w) (op := op) (T := T) (x := x) (y := y) hb
  simp only [execOp, ho, Sem.run_bind, hg, Result.andThen_ok]
  subst hop
  generalize a.eval x = p at *
  generalize a.eval y = q at *
  unfold eqV at hb
  cases neg
  all_goals split at hb <;> first | (cases hb; done) | (simp [binOp, he])

theorem un_ok {o : Oper} {op : UnOp} {T : TypeId} {x : Operand} (ho : o.op = .unOp op T x) {v : Value} (h : unV op (a.eval x) = some v) :
    (execOp a.eval o).run P w = .ok (.value v) w := by
  simp only [execOp, ho]
  unfold unV at h
  split at h
  · rename_i hx; rw [hx]; cases h; simp [Op.unary, Op.intArith]
  · rename_i hx; rw [hx]; simp only [intBin] at h; cases h; simp [Op.unary, Op.intBits]
  · rename_i hx; rw [hx]; cases h; simp [Op.unary]
  · cases h

theorem fieldAddr_ok {o : Oper} {T : TypeId} {x : Operand} {f : Nat} (ho : o.op = .fieldAddr T x f) {fs : Array Field} (hu : P.underlying T = some (.struct fs)) {fd : Field} (hf : fs.toList[f]? = some fd)
    {sz : Nat} (hs : szOf P fd.type = some sz) (h0 : sz ≠ 0) {v : Value} (h : addOffV (a.eval x) fd.offset = some v) : (execOp a.eval o).run P w = .ok (.value v) w := by
  unfold addOffV at h
  split at h
  · rename_i ad hx
    cases h
    have hf' : fs[f]? = some fd := by rw [← Array.getElem?_toList]; exact hf
    simp [execOp, ho, Instr.fieldAt, und_run hu, hf', hx, Instr.sureAddr, fieldPlace, szOf_run hs, h0]
  · cases h

theorem idxS_ok {o : Oper} {T e : TypeId} {x i : Operand} (ho : o.op = .indexAddr T x i) (hu : P.underlying T = some (.slice e)) {sz : Nat} (hs : szOf P e = some sz)
    {v : Value} (h : idxSV sz (a.eval x) (a.eval i) = some v) : (execOp a.eval o).run P w = .ok (.value v) w := by
  unfold idxSV at h
  split at h
  · rename_i ad len c k n hx hi
    split at h
    · rename_i hr
      cases h
      simp [execOp, ho, Instr.indexAt, hx, hi, asIntOf, und_run hu, hr, szOf_run hs]
    · cases h
  · cases h

theorem idxA_ok {o : Oper} {T e n : Nat} {x i : Operand} (ho : o.op = .indexAddr T x i) (hu : P.underlying T = some (.array n e)) {sz : Nat} (hs : szOf P e = some sz)
    {v : Value} (h : idxAV n sz (a.eval x) (a.eval i) = some v) : (execOp a.eval o).run P w = .ok (.value v) w := by
  unfold idxAV at h
  split at h
  · rename_i ad k q hx hi
    split at h
    · rename_i hr
      cases h
      simp [execOp, ho, Instr.indexAt, hx, hi, asIntOf, und_run hu, hr, szOf_run hs, Instr.sureAddr]
    · cases h
  · cases h

theorem bound_ok {x : Value} {i : Int} {y : Nat} {c : BoundsCode} (hx : ∃ k, x = .int k i) (h0 : 0 ≤ i) (h1 : i ≤ y) : (Instr.sliceBound x y c).run P w = .ok i.toNat w := by
  obtain ⟨k, rfl⟩ := hx
  simp [Instr.sliceBound, asIntOf, h0, h1]

theorem bnd_cases {x : Option Value} {d : Nat} {i : Int} (h : bnd x d = some i) : (x = none ∧ i = d) ∨ ∃ k, x = some (.int k i) := by
  unfold bnd at h
  split at h
  · cases h; exact .inl ⟨rfl, rfl⟩
  · cases h; exact .inr ⟨_, rfl⟩
  · cases h

theorem bounds_ok {isS : Bool} {len cap : Nat} {lo hi mx : Option Value} {l h m : Int} (hl : bnd lo 0 = some l) (hh : bnd hi len = some h) (hm : bnd mx cap = some m)
    (hc : 0 ≤ l ∧ l ≤ h ∧ h ≤ m ∧ m ≤ cap) (hmh : mx.isSome = true → hi.isSome = true) : (Instr.sliceBounds isS len cap lo hi mx).run P w = .ok (l.toNat, h.toNat, m.toNat) w := by
  obtain ⟨c0, c1, c2, c3⟩ := hc
  rcases bnd_cases hm with ⟨rfl, rfl⟩ | ⟨k3, rfl⟩
  · rcases bnd_cases hh with ⟨rfl, rfl⟩ | ⟨k2, rfl⟩
    · rcases bnd_cases hl with ⟨rfl, rfl⟩ | ⟨k1, rfl⟩
      · simp [Instr.sliceBounds]
      · simp [Instr.sliceBounds, bound_ok ⟨k1, rfl⟩ c0 c1]
    · have b2 : ∀ c, (Instr.sliceBound (Value.int k2 h) cap c).run P w = .ok h.toNat w := fun c => bound_ok ⟨k2, rfl⟩ (by omega) (by omega)
      rcases bnd_cases hl with ⟨rfl, rfl⟩ | ⟨k1, rfl⟩
      · simp [Instr.sliceBounds, b2]
      · have b1 : ∀ c, (Instr.sliceBound (Value.int k1 l) h.toNat c).run P w = .ok l.toNat w := fun c => bound_ok ⟨k1, rfl⟩ (by omega) (by omega)
        simp [Instr.sliceBounds, b2, b1]
  · rcases bnd_cases hh with ⟨rfl, rfl⟩ | ⟨k2, rfl⟩
    · simp at hmh
    · have b3 : ∀ c, (Instr.sliceBound (Value.int k3 m) cap c).run P w = .ok m.toNat w := fun c => bound_ok ⟨k3, rfl⟩ (by omega) (by omega)
      have b2 : ∀ c, (Instr.sliceBound (Value.int k2 h) m.toNat c).run P w = .ok h.toNat w := fun c => bound_ok ⟨k2, rfl⟩ (by omega) (by omega)
      rcases bnd_cases hl with ⟨rfl, rfl⟩ | ⟨k1, rfl⟩
      · simp [Instr.sliceBounds, b3, b2]
      · have b1 : ∀ c, (Instr.sliceBound (Value.int k1 l) h.toNat c).run P w = .ok l.toNat w := fun c => bound_ok ⟨k1, rfl⟩ (by omega) (by omega)
        simp [Instr.sliceBounds, b3, b2, b1]

end Go.Proofs.Ytnjjdpeglkiifaa.MX
