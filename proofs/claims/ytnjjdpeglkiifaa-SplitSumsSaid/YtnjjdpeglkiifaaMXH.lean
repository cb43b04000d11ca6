/- The engine, part H: what an operation that only reads yields, and nothing else turns. -/
import Derived.Test.YtnjjdpeglkiifaaMXG
namespace Go.Proofs.Ytnjjdpeglkiifaa.MX
open Go
set_option linter.unusedSimpArgs false
set_option linter.unusedVariables false
variable {P : Program} {N : Nat} {a : Act} {ρ : Env} {w : World}

def MOp.val (ρ : Env) (h : Heap) : MOp → Option Value
  | .p x => x.val ρ
  | .r x => x.val ρ h
  | .e _ => none

theorem compCall_exact {o : Oper} {c : Call} (ho : o.op = .call c) (hrel : Rel N a ρ) {m : MOp} (hc : compCall P N c = some m) (hm : isEff m = false) {v : Value} (hv : m.val ρ w.heap = some v) : (execOp a.eval o).run P w = .ok (.value v) w := by
  unfold compCall at hc
  split at hc
  · rename_i b hcl
    obtain ⟨xs, hxs, hc⟩ := bindV_eq hc
    have hargs := args_of hrel hxs
    split at hc
    · -- len
      rename_i x
      obtain ⟨t, ht, hc⟩ := bindV_eq hc
      split at hc
      · rename_i hu
        cases hc
        obtain ⟨s, hx, rfl⟩ := lenT_spec (x := ev ρ _) hv
        simp [execOp, ho, resolve, hcl, hargs, hx, invoke, builtin, Builtin.len_, ht, und_run hu, goInt]
      · rename_i hu
        cases hc
        obtain ⟨_, n, _, hx, rfl⟩ := lenS_spec (x := ev ρ _) hv
        simp [execOp, ho, resolve, hcl, hargs, hx, invoke, builtin, Builtin.len_, ht, und_run hu, goInt]
      · rename_i hu
        cases hc
        cases hv
        simp [execOp, ho, resolve, hcl, hargs, invoke, builtin, Builtin.len_, ht, und_run hu, goInt]
      · rename_i hu
        split at hc
        · rename_i hu2
          cases hc
          cases hv
          simp [execOp, ho, resolve, hcl, hargs, invoke, builtin, Builtin.len_, ht, und_run hu, und_run hu2, goInt]
        · cases hc
      · cases hc
    · -- cap
      rename_i x
      obtain ⟨t, ht, hc⟩ := bindV_eq hc
      split at hc
      · rename_i hu
        cases hc
        simp only [MOp.val, Pure.val] at hv
        unfold capV at hv
        split at hv <;> first | (cases hv; done) | skip
        cases hv; rename_i hx
        simp [execOp, ho, resolve, hcl, hargs, hx, invoke, builtin, Builtin.cap_, ht, und_run hu, goInt]
      · cases hc
    · rename_i x ys
      cases hc
      simp only [MOp.val, Pure.val] at hv
      have hf := fold_ok (P := P) (w := w) (g := Builtin.min2) (fun x y v => min2_ok) _ _ _ hv
      simp [execOp, ho, resolve, hcl, hargs, invoke, builtin, Builtin.min_, hf]
    · rename_i x ys
      cases hc
      simp only [MOp.val, Pure.val] at hv
      have hf := fold_ok (P := P) (w := w) (g := Builtin.max2) (fun x y v => max2_ok) _ _ _ hv
      simp [execOp, ho, resolve, hcl, hargs, invoke, builtin, Builtin.max_, hf]
    · -- append
      rename_i x y _
      obtain ⟨t, ht, hc⟩ := bindV_eq hc
      obtain ⟨u, ht2, hc⟩ := bindV_eq hc
      obtain ⟨x', y', hx⟩ : ∃ x' y', c.args.toList = [x', y'] ∧ a.eval x' = ev ρ x ∧ a.eval y' = ev ρ y := by
        have := opds_ev hrel hxs
        match hl : c.args.toList with
        | [] => simp [hl] at this
        | [_] => simp [hl] at this
        | [p, q] => rw [hl] at this; simp at this; exact ⟨p, q, rfl, this.1, this.2⟩
        | _ :: _ :: _ :: _ => simp [hl] at this
      obtain ⟨hx, hex, hey⟩ := hx
      split at hc
      · rename_i e e' hu hd
        obtain ⟨sz, hs, hc⟩ := bindV_eq hc
        obtain ⟨by_, hb, hc⟩ := bindV_eq hc
        obtain ⟨z, hz, hc⟩ := bindV_eq hc
        split at hc
        · rename_i hl
          cases hc
          cases hm
        · cases hc
      · rename_i e hu hd
        obtain ⟨sz, hs, hc⟩ := bindV_eq hc
        obtain ⟨by_, hb, hc⟩ := bindV_eq hc
        obtain ⟨z, hz, hc⟩ := bindV_eq hc
        split at hc
        · rename_i hl
          cases hc
          cases hm
        · cases hc
      · cases hc
    · -- copy
      rename_i x y _
      obtain ⟨t, ht, hc⟩ := bindV_eq hc
      obtain ⟨x', y', hx⟩ : ∃ x' y', c.args.toList = [x', y'] ∧ a.eval x' = ev ρ x ∧ a.eval y' = ev ρ y := by
        have := opds_ev hrel hxs
        match hl : c.args.toList with
        | [] => simp [hl] at this
        | [_] => simp [hl] at this
        | [p, q] => rw [hl] at this; simp at this; exact ⟨p, q, rfl, this.1, this.2⟩
        | _ :: _ :: _ :: _ => simp [hl] at this
      obtain ⟨hx, hex, hey⟩ := hx
      split at hc
      · rename_i e hu
        obtain ⟨sz, hs, hc⟩ := bindV_eq hc
        split at hc
        · cases hc
          cases hm
        · cases hc
      · cases hc
    · -- clear
      rename_i x _
      obtain ⟨t, ht, hc⟩ := bindV_eq hc
      obtain ⟨x', hx, hex⟩ : ∃ x', c.args.toList = [x'] ∧ a.eval x' = ev ρ x := by
        have := opds_ev hrel hxs
        match hl : c.args.toList with
        | [] => simp [hl] at this
        | [p] => rw [hl] at this; simp at this; exact ⟨p, rfl, this⟩
        | _ :: _ :: _ => simp [hl] at this
      split at hc
      · rename_i e hu
        obtain ⟨sz, hs, hc⟩ := bindV_eq hc
        obtain ⟨z, hz, hc⟩ := bindV_eq hc
        split at hc
        · rename_i hl
          cases hc
          cases hm
        · cases hc
      · cases hc
    · cases hc
  · rename_i f hcl
    obtain ⟨y, hy, hc⟩ := bindV_eq hc
    obtain ⟨xs, hxs, hc⟩ := bindV_eq hc
    have he := opd_ev hrel hy
    have hargs := opds_ev hrel hxs
    split at hc
    · rename_i g p q
      split at hc
      · rename_i hok
        simp only [Bool.and_eq_true, Array.isEmpty_iff] at hok
        obtain ⟨⟨rfl, rfl⟩, hok⟩ := hok
        cases hc
        cases hm
      · cases hc
    · cases hc
      cases hm
    · cases hc
  · cases hc

theorem anyOp_exact {o : Oper} (hrel : Rel N a ρ) {m : MOp} (hc : anyOp N o = some m) (hm : isEff m = false) {v : Value} (hv : m.val ρ w.heap = some v) : (execOp a.eval o).run P w = .ok (.value v) w := by
  unfold anyOp at hc
  split at hc
  · cases hc
  · cases hc
  · split at hc
    · rename_i hall
      cases hc
      cases hm
    · cases hc

theorem eqs_exact {o : Oper} {op : BinOp} {T yT : TypeId} {x y : Operand} (ho : o.op = .binOp op T x y yT) {k : EK} {d : TypeDesc} (hu : P.underlying T = some d) (hd : ekOk k d = true)
    {x' y' : Opd} (hx : a.eval x = ev ρ x') (hy : a.eval y = ev ρ y') {m : MOp}
    (hc : (op = .eql ∧ m = .p (.eq k false x' y')) ∨ (op = .neq ∧ m = .p (.eq k true x' y'))) (hm : isEff m = false) {v : Value} (hv : m.val ρ w.heap = some v) : (execOp a.eval o).run P w = .ok (.value v) w := by
  rcases hc with ⟨rfl, rfl⟩ | ⟨rfl, rfl⟩
  · simp only [MOp.val, Pure.val, ← hx, ← hy] at hv
    exact eq_ok ho hu hd (neg := false) rfl hv
  · simp only [MOp.val, Pure.val, ← hx, ← hy] at hv
    exact eq_ok ho hu hd (neg := true) rfl hv

set_option maxHeartbeats 1000000 in
theorem compOp_exact {o : Oper} (hrel : Rel N a ρ) {m : MOp} (hc : compOp P N o = some m) (hm : isEff m = false) {v : Value} (hv : m.val ρ w.heap = some v) : (execOp a.eval o).run P w = .ok (.value v) w := by
  unfold compOp at hc
  split at hc
  · -- move
    rename_i ho
    obtain ⟨x, hx, hc⟩ := bindV_eq hc
    cases hc
    cases hv
    simp [execOp, ho, opd_ev hrel hx]
  · rename_i ho
    obtain ⟨x, hx, hc⟩ := bindV_eq hc
    cases hc
    cases hv
    simp [execOp, ho, opd_ev hrel hx]
  · -- pick
    rename_i ho
    obtain ⟨c, h1, hc⟩ := bindV_eq hc
    obtain ⟨x, h2, hc⟩ := bindV_eq hc
    obtain ⟨y, h3, hc⟩ := bindV_eq hc
    cases hc
    have := pick_ok (P := P) (w := w) hv
    simp only [execOp, ho, opd_ev hrel h1, opd_ev hrel h2, opd_ev hrel h3]
    exact this
  · rename_i ho
    obtain ⟨z, hz, hc⟩ := bindV_eq hc
    cases hc
    cases hm
  · rename_i e x ho
    obtain ⟨x', hx, hc⟩ := bindV_eq hc
    cases hc
    cases hm
  · -- build
    rename_i ho
    obtain ⟨z, hz, hc⟩ := bindV_eq hc
    split at hc
    · rename_i fs hu
      split at hc
      · rename_i hall
        obtain ⟨ps, hp, hc⟩ := bindV_eq hc
        cases hc
        exact build_ok hrel ho hz hu hall hp hv
      · cases hc
    · rename_i hu
      obtain ⟨sz, hs, hc⟩ := bindV_eq hc
      obtain ⟨ps, hp, hc⟩ := bindV_eq hc
      cases hc
      exact buildA_ok hrel ho hz hu hs hp hv
    · cases hc
  · -- buildSlice
    rename_i ho
    split at hc
    · rename_i hu
      obtain ⟨sz, hs, hc⟩ := bindV_eq hc
      obtain ⟨z, hz, hc⟩ := bindV_eq hc
      split at hc
      · rename_i hl
        obtain ⟨ps, hp, hc⟩ := bindV_eq hc
        cases hc
        cases hm
      · cases hc
    · cases hc
  · -- load
    rename_i ho
    obtain ⟨x, hx, hc⟩ := bindV_eq hc
    obtain ⟨g, hg, hc⟩ := bindV_eq hc
    split at hc
    · rename_i hgt
      subst hgt
      obtain ⟨n, hn, hc⟩ := bindV_eq hc
      cases hc
      simp only [MOp.val, Read.val, ← opd_ev hrel hx] at hv
      exact loadN_ok ho hg hn hv
    · rename_i hgt
      obtain rfl : g = false := by simpa using hgt
      cases hc
      simp only [MOp.val, Read.val, ← opd_ev hrel hx] at hv
      exact load1_ok ho hg hv
  · -- store
    rename_i ho
    obtain ⟨x, hx, hc⟩ := bindV_eq hc
    obtain ⟨y, hy, hc⟩ := bindV_eq hc
    obtain ⟨n, hn, hc⟩ := bindV_eq hc
    cases hc
    cases hm
  · -- nilCheck
    rename_i ho
    obtain ⟨x, hx, hc⟩ := bindV_eq hc
    cases hc
    simp only [MOp.val, Pure.val, ← opd_ev hrel hx] at hv
    exact nil_ok ho hv
  · -- binOp
    rename_i op t x y yT ho
    obtain ⟨x', hx, hc⟩ := bindV_eq hc
    obtain ⟨y', hy, hc⟩ := bindV_eq hc
    have ex := opd_ev hrel hx
    have ey := opd_ev hrel hy
    split at hc
    · cases hc
      simp only [MOp.val, Pure.val, ← ex, ← ey] at hv
      exact bin_ok ho hv
    · cases hc
      simp only [MOp.val, Pure.val, ← ex, ← ey] at hv
      exact bin_ok ho hv
    · rename_i hu
      exact eqs_exact (k := .b) ho hu rfl ex ey (by split at hc <;> simp_all) hm hv
    · rename_i hu
      exact eqs_exact (k := .p) ho hu rfl ex ey (by split at hc <;> simp_all) hm hv
    · rename_i hu
      exact eqs_exact (k := .s) ho hu rfl ex ey (by split at hc <;> simp_all) hm hv
    · rename_i hu
      exact eqs_exact (k := .m) ho hu rfl ex ey (by split at hc <;> simp_all) hm hv
    · rename_i hu
      exact eqs_exact (k := .f) ho hu rfl ex ey (by split at hc <;> simp_all) hm hv
    · rename_i hu
      split at hc
      · cases hc
      · rename_i hgt
        obtain ⟨ks, hk, hc⟩ := bindV_eq hc
        have hgt : P.eqGuardType P.depth t = false := by simpa using hgt
        have hag : isAggB P t = some true := by simp only [isAggB, hu]
        have hcc : (op = .eql ∧ m = .p (.eqA ks false x' y')) ∨ (op = .neq ∧ m = .p (.eqA ks true x' y')) := by split at hc <;> simp_all
        rcases hcc with ⟨rfl, rfl⟩ | ⟨rfl, rfl⟩
        · simp only [MOp.val, Pure.val, ← ex, ← ey] at hv
          exact eqA_ok ho hag hgt hk (neg := false) rfl hv
        · simp only [MOp.val, Pure.val, ← ex, ← ey] at hv
          exact eqA_ok ho hag hgt hk (neg := true) rfl hv
    · rename_i hu
      split at hc
      · cases hc
      · rename_i hgt
        obtain ⟨ks, hk, hc⟩ := bindV_eq hc
        have hgt : P.eqGuardType P.depth t = false := by simpa using hgt
        have hag : isAggB P t = some true := by simp only [isAggB, hu]
        have hcc : (op = .eql ∧ m = .p (.eqA ks false x' y')) ∨ (op = .neq ∧ m = .p (.eqA ks true x' y')) := by split at hc <;> simp_all
        rcases hcc with ⟨rfl, rfl⟩ | ⟨rfl, rfl⟩
        · simp only [MOp.val, Pure.val, ← ex, ← ey] at hv
          exact eqA_ok ho hag hgt hk (neg := false) rfl hv
        · simp only [MOp.val, Pure.val, ← ex, ← ey] at hv
          exact eqA_ok ho hag hgt hk (neg := true) rfl hv
    · exact anyOp_exact hrel hc hm hv
  · -- unOp
    rename_i ho
    obtain ⟨x, hx, hc⟩ := bindV_eq hc
    cases hc
    simp only [MOp.val, Pure.val, ← opd_ev hrel hx] at hv
    exact un_ok ho hv
  · -- convert
    rename_i ho
    obtain ⟨x, hx, hc⟩ := bindV_eq hc
    split at hc
    · rename_i h1 h2
      cases hc
      simp only [MOp.val, Pure.val, ← opd_ev hrel hx] at hv
      exact conv_ok ho h1 h2 hv
    · rename_i h1 h2
      split at hc
      · rename_i h3
        cases hc
        cases hm
      · cases hc
    · exact anyOp_exact hrel hc hm hv
  · -- makeFunc
    rename_i ho
    obtain ⟨xs, hx, hc⟩ := bindV_eq hc
    obtain ⟨ys, hy, hc⟩ := bindV_eq hc
    cases hc
    cases hv
    exact func_ok ho (opds_ev hrel hx) (opds_ev hrel hy)
  · -- makeSlice
    rename_i ho
    obtain ⟨l, hl, hc⟩ := bindV_eq hc
    obtain ⟨c, hcc, hc⟩ := bindV_eq hc
    split at hc
    · rename_i hu
      obtain ⟨sz, hs, hc⟩ := bindV_eq hc
      obtain ⟨by_, hb, hc⟩ := bindV_eq hc
      obtain ⟨z, hz, hc⟩ := bindV_eq hc
      split at hc
      · rename_i hzz
        cases hc
        cases hm
      · cases hc
    · cases hc
  · -- slice
    rename_i t x lo hi mx ho
    obtain ⟨x', hx, hc⟩ := bindV_eq hc
    obtain ⟨lo', hlo, hc⟩ := bindV_eq hc
    obtain ⟨hi', hhi, hc⟩ := bindV_eq hc
    obtain ⟨mx', hmx, hc⟩ := bindV_eq hc
    split at hc
    · cases hc
    · rename_i hmh
      have hmh' : (mx.isSome && hi.isNone) = false := by cases h : (mx.isSome && hi.isNone) with | true => exact absurd h hmh | false => rfl
      have e1 := opd_ev hrel hx
      have e2 := opdO_ev hrel hlo
      have e3 := opdO_ev hrel hhi
      have e4 := opdO_ev hrel hmx
      split at hc
      · rename_i hu
        obtain ⟨sz, hs, hc⟩ := bindV_eq hc
        cases hc
        simp only [MOp.val, Pure.val, ← e1, ← e2, ← e3, ← e4] at hv
        exact cutA_ok ho hu hs hmh' hv
      · rename_i hu
        split at hc
        · cases hc
        · rename_i hm
          injection hc with hc
          subst hc
          have hmn : mx = none := by cases mx <;> simp_all
          rw [hmn] at ho
          simp only [MOp.val, Pure.val, ← e1, ← e2, ← e3] at hv
          exact cutT_ok ho hu hv
      · rename_i hu
        obtain ⟨sz, hs, hc⟩ := bindV_eq hc
        cases hc
        simp only [MOp.val, Pure.val, ← e1, ← e2, ← e3, ← e4] at hv
        exact cutS_ok ho hu hs hmh' hv
      · rename_i hu
        split at hc
        · rename_i hu2
          obtain ⟨sz, hs, hc⟩ := bindV_eq hc
          cases hc
          simp only [MOp.val, Pure.val, ← e1, ← e2, ← e3, ← e4] at hv
          exact cutP_ok ho hu hu2 hs hmh' hv
        · cases hc
      · cases hc
  · -- fieldAddr
    rename_i ho
    obtain ⟨x, hx, hc⟩ := bindV_eq hc
    split at hc
    · rename_i hu
      split at hc
      · rename_i hf
        obtain ⟨sz, hs, hc⟩ := bindV_eq hc
        split at hc
        · cases hc
        · rename_i h0
          cases hc
          simp only [MOp.val, Pure.val, ← opd_ev hrel hx] at hv
          exact fieldAddr_ok ho hu hf hs h0 hv
      · cases hc
    · cases hc
  · -- field
    rename_i ho
    obtain ⟨x, hx, hc⟩ := bindV_eq hc
    split at hc
    · rename_i hu
      split at hc
      · rename_i hf
        obtain ⟨sz, hs, hc⟩ := bindV_eq hc
        obtain ⟨g, hg, hc⟩ := bindV_eq hc
        cases hc
        simp only [MOp.val, Pure.val, ← opd_ev hrel hx] at hv
        exact field_ok ho hu hf hs hg hv
      · cases hc
    · cases hc
  · -- indexAddr
    rename_i ho
    obtain ⟨x, hx, hc⟩ := bindV_eq hc
    obtain ⟨i, hi, hc⟩ := bindV_eq hc
    split at hc
    · rename_i hu
      obtain ⟨sz, hs, hc⟩ := bindV_eq hc
      cases hc
      simp only [MOp.val, Pure.val, ← opd_ev hrel hx, ← opd_ev hrel hi] at hv
      exact idxS_ok ho hu hs hv
    · rename_i hu
      obtain ⟨sz, hs, hc⟩ := bindV_eq hc
      cases hc
      simp only [MOp.val, Pure.val, ← opd_ev hrel hx, ← opd_ev hrel hi] at hv
      exact idxA_ok ho hu hs hv
    · cases hc
  · -- index
    rename_i ho
    obtain ⟨x, hx, hc⟩ := bindV_eq hc
    obtain ⟨i, hi, hc⟩ := bindV_eq hc
    split at hc
    · rename_i hu
      cases hc
      simp only [MOp.val, Pure.val, ← opd_ev hrel hx, ← opd_ev hrel hi] at hv
      exact idxT_ok ho hu hv
    · rename_i hu
      obtain ⟨sz, hs, hc⟩ := bindV_eq hc
      obtain ⟨g, hg, hc⟩ := bindV_eq hc
      cases hc
      simp only [MOp.val, Pure.val, ← opd_ev hrel hx, ← opd_ev hrel hi] at hv
      exact idxG_ok ho hu hs hg hv
    · cases hc
  · -- extract
    rename_i ho
    obtain ⟨x, hx, hc⟩ := bindV_eq hc
    cases hc
    simp only [MOp.val, Pure.val, ← opd_ev hrel hx] at hv
    exact extr_ok ho hv
  · rename_i ho
    split at hc
    · rename_i m' hm'
      cases hc
      exact compCall_exact ho hrel hm' hm hv
    · split at hc
      · cases hc
        cases hm
      · cases hc
  · exact anyOp_exact hrel hc hm hv

end Go.Proofs.Ytnjjdpeglkiifaa.MX
