import Derived.Test.YtcgbhcgfdcfmaaaGreatK03
namespace Go.Proofs.YtcgbhcgfdcfmaaaGreat.MX
open Go Go.Proofs
set_option linter.unusedSimpArgs false
set_option linter.unusedVariables false
section
variable {P : Program} {N : Nat} {a : Act} {ρ : Env} {w : World} {K : Value → Heap → Prop}
theorem min2_ok {x y v : Value} (h : minV x y = some v) : (Builtin.min2 x y).run P w = .ok v w := by
 unfold minV at h
 split at h
 ·cases h; rfl
 ·cases h
theorem max2_ok {x y v : Value} (h : maxV x y = some v) : (Builtin.max2 x y).run P w = .ok v w := by
 unfold maxV at h
 split at h
 ·cases h; rfl
 ·cases h
theorem fold_ok {f : Value → Value → Option Value} {g : Value → Value → Sem Value} (hfg : ∀ x y v, f x y = some v → (g x y).run P w = .ok v w) : ∀ (ys : List Value) (x v : Value), foldV f x ys = some v → (ys.foldlM g x).run P w = .ok v w
 | [], x, v, h => by cases h; rfl
 | y :: ys, x, v, h => by
  simp only [foldV] at h
  obtain ⟨z, h1, h2⟩ := bV h
  simp only [List.foldlM_cons, Sem.run_bind, hfg x y z h1, Result.andThen_ok]
  exact fold_ok hfg ys z v h2
theorem lenT_spec {x v : Value} (h : lenV true x = some v) : ∃ s, x = .string s ∧ v = .int .i64 s.size := by
 cases x <;> simp [lenV] at h
 exact ⟨_, rfl, h.symm⟩
theorem lenS_spec {x v : Value} (h : lenV false x = some v) : ∃ a n c, x = .slice a n c ∧ v = .int .i64 n := by
 cases x <;> simp [lenV] at h
 exact ⟨_, _, _, rfl, h.symm⟩
theorem args_of {cl : Call} {xs : List Opd} (hrel : Rel N a ρ) (h : opds N cl.args.toList = some xs) : cl.args.map a.eval = (xs.map (ev ρ)).toArray := by
 apply Array.toList_inj.1
 rw [Array.toList_map, opds_ev hrel h]
theorem compCall_sound {o : Oper} {c : Call} (ho : o.op = .call c) (hrel : Rel N a ρ) {m : MOp} (hc : compCall P N c = some m) (h : m.wp P ρ w.heap K) : OpOut P o a w K := by
 unfold compCall at hc
 split at hc
 ·rename_i b hcl
  obtain ⟨xs, hxs, hc⟩ := bV hc
  have hargs := args_of hrel hxs
  split at hc
  ·-- len
   rename_i x
   obtain ⟨t, ht, hc⟩ := bV hc
   split at hc
   ·rename_i hu
    cases hc
    refine pureOut h fun v hv => ?_
    obtain ⟨s, hx, rfl⟩ := lenT_spec hv
    simp [execOp, ho, resolve, hcl, hargs, hx, invoke, builtin, Builtin.len_, ht, und_run hu, goInt]
   ·rename_i hu
    cases hc
    refine pureOut h fun v hv => ?_
    obtain ⟨_, n, _, hx, rfl⟩ := lenS_spec hv
    simp [execOp, ho, resolve, hcl, hargs, hx, invoke, builtin, Builtin.len_, ht, und_run hu, goInt]
   ·rename_i hu
    cases hc
    refine pureOut (v := some (.int .i64 _)) h fun v hv => ?_
    cases hv
    simp [execOp, ho, resolve, hcl, hargs, invoke, builtin, Builtin.len_, ht, und_run hu, goInt]
   ·rename_i hu
    split at hc
    ·rename_i hu2
     cases hc
     refine pureOut (v := some (.int .i64 _)) h fun v hv => ?_
     cases hv
     simp [execOp, ho, resolve, hcl, hargs, invoke, builtin, Builtin.len_, ht, und_run hu, und_run hu2, goInt]
    ·cases hc
   ·cases hc
  ·-- cap
   rename_i x
   obtain ⟨t, ht, hc⟩ := bV hc
   split at hc
   ·rename_i hu
    cases hc
    refine pureOut h fun v hv => ?_
    simp only [Pure.val] at hv
    unfold capV at hv
    split at hv <;> first | (cases hv; done) | skip
    cases hv; rename_i hx
    simp [execOp, ho, resolve, hcl, hargs, hx, invoke, builtin, Builtin.cap_, ht, und_run hu, goInt]
   ·cases hc
  ·rename_i x ys
   cases hc
   refine pureOut h fun v hv => ?_
   simp only [Pure.val] at hv
   have hf := fold_ok (P := P) (w := w) (g := Builtin.min2) (fun x y v => min2_ok) _ _ _ hv
   simp [execOp, ho, resolve, hcl, hargs, invoke, builtin, Builtin.min_, hf]
  ·rename_i x ys
   cases hc
   refine pureOut h fun v hv => ?_
   simp only [Pure.val] at hv
   have hf := fold_ok (P := P) (w := w) (g := Builtin.max2) (fun x y v => max2_ok) _ _ _ hv
   simp [execOp, ho, resolve, hcl, hargs, invoke, builtin, Builtin.max_, hf]
  ·-- append
   rename_i x y _
   obtain ⟨t, ht, hc⟩ := bV hc
   obtain ⟨u, ht2, hc⟩ := bV hc
   obtain ⟨x', y', hx⟩ : ∃ x' y', c.args.toList = [x', y'] ∧ a.eval x' = ev ρ x ∧ a.eval y' = ev ρ y := by
    have := opds_ev hrel hxs
    match hl : c.args.toList with
    | [] => simp [hl] at this
    | [_] => simp [hl] at this
    | [p, q] => rw [hl] at this; simp at this; exact ⟨p, q, rfl, this.1, this.2⟩
    | _ :: _ :: _ :: _ => simp [hl] at this
   obtain ⟨hx, hex, hey⟩ := hx
   split at hc
   ·rename_i e e' hu hd
    obtain ⟨sz, hs, hc⟩ := bV hc
    obtain ⟨by_, hb, hc⟩ := bV hc
    obtain ⟨z, hz, hc⟩ := bV hc
    split at hc
    ·rename_i hl
     cases hc
     exact append_ok ho hcl hx ht ht2 hu hd (.inl ⟨_, rfl⟩) hs hb hz hl (by rw [hex, hey]; exact h)
    ·cases hc
   ·rename_i e hu hd
    obtain ⟨sz, hs, hc⟩ := bV hc
    obtain ⟨by_, hb, hc⟩ := bV hc
    obtain ⟨z, hz, hc⟩ := bV hc
    split at hc
    ·rename_i hl
     cases hc
     exact append_ok ho hcl hx ht ht2 hu hd (.inr rfl) hs hb hz hl (by rw [hex, hey]; exact h)
    ·cases hc
   ·cases hc
  ·-- copy
   rename_i x y _
   obtain ⟨t, ht, hc⟩ := bV hc
   obtain ⟨x', y', hx⟩ : ∃ x' y', c.args.toList = [x', y'] ∧ a.eval x' = ev ρ x ∧ a.eval y' = ev ρ y := by
    have := opds_ev hrel hxs
    match hl : c.args.toList with
    | [] => simp [hl] at this
    | [_] => simp [hl] at this
    | [p, q] => rw [hl] at this; simp at this; exact ⟨p, q, rfl, this.1, this.2⟩
    | _ :: _ :: _ :: _ => simp [hl] at this
   obtain ⟨hx, hex, hey⟩ := hx
   split at hc
   ·rename_i e hu
    obtain ⟨sz, hs, hc⟩ := bV hc
    split at hc
    ·cases hc
     exact copy_ok ho hcl hx ht hu hs (by rw [hex, hey]; exact h)
    ·cases hc
   ·cases hc
  ·-- clear
   rename_i x _
   obtain ⟨t, ht, hc⟩ := bV hc
   obtain ⟨x', hx, hex⟩ : ∃ x', c.args.toList = [x'] ∧ a.eval x' = ev ρ x := by
    have := opds_ev hrel hxs
    match hl : c.args.toList with
    | [] => simp [hl] at this
    | [p] => rw [hl] at this; simp at this; exact ⟨p, rfl, this⟩
    | _ :: _ :: _ => simp [hl] at this
   split at hc
   ·rename_i e hu
    obtain ⟨sz, hs, hc⟩ := bV hc
    obtain ⟨z, hz, hc⟩ := bV hc
    split at hc
    ·rename_i hl
     cases hc
     exact clear_ok ho hcl hx ht hu hz (by rw [hl.1]; exact hl.2) (by rw [hex]; exact h)
    ·cases hc
   ·cases hc
  ·cases hc
 ·rename_i f hcl
  obtain ⟨y, hy, hc⟩ := bV hc
  obtain ⟨xs, hxs, hc⟩ := bV hc
  have he := opd_ev hrel hy
  have hargs := opds_ev hrel hxs
  split at hc
  ·rename_i g p q
   split at hc
   ·rename_i hok
    simp only [Bool.and_eq_true, Array.isEmpty_iff] at hok
    obtain ⟨⟨rfl, rfl⟩, hok⟩ := hok
    cases hc
    exact call_ok ho ⟨f, hcl, he⟩ hargs hok h
   ·cases hc
  ·cases hc
   exact callv_ok ho hcl hargs (by rw [he]; exact h)
  ·cases hc
 ·cases hc
theorem anyOp_sound {o : Oper} (hrel : Rel N a ρ) {m : MOp} (hc : anyOp N o = some m) (h : m.wp P ρ w.heap K) : OpOut P o a w K := by
 unfold anyOp at hc
 split at hc
 ·cases hc
 ·cases hc
 ·split at hc
  ·rename_i hall
   cases hc
   exact any_ok hrel hall h
  ·cases hc
theorem eqs_sound {o : Oper} {op : BinOp} {T yT : TypeId} {x y : Operand} (ho : o.op = .binOp op T x y yT) {k : EK} {d : TypeDesc} (hu : P.underlying T = some d) (hd : ekOk k d = true)
  {x' y' : Opd} (hx : a.eval x = ev ρ x') (hy : a.eval y = ev ρ y') {m : MOp}
  (hc : (op = .eql ∧ m = .p (.eq k false x' y')) ∨ (op = .neq ∧ m = .p (.eq k true x' y'))) (h : m.wp P ρ w.heap K) : OpOut P o a w K := by
 rcases hc with ⟨rfl, rfl⟩ | ⟨rfl, rfl⟩
 ·refine pureOut h fun v hv => ?_
  simp only [Pure.val, ← hx, ← hy] at hv
  exact eq_ok ho hu hd (neg := false) rfl hv
 ·refine pureOut h fun v hv => ?_
  simp only [Pure.val, ← hx, ← hy] at hv
  exact eq_ok ho hu hd (neg := true) rfl hv
set_option maxHeartbeats 1000000 in
theorem compOp_sound {o : Oper} (hrel : Rel N a ρ) {m : MOp} (hc : compOp P N o = some m) (h : m.wp P ρ w.heap K) : OpOut P o a w K := by
 unfold compOp at hc
 split at hc
 ·-- move
  rename_i ho
  obtain ⟨x, hx, hc⟩ := bV hc
  cases hc
  refine OpOut.value (v := ev ρ x) ?_ h
  simp [execOp, ho, opd_ev hrel hx]
 ·rename_i ho
  obtain ⟨x, hx, hc⟩ := bV hc
  cases hc
  refine OpOut.value (v := ev ρ x) ?_ h
  simp [execOp, ho, opd_ev hrel hx]
 ·-- pick
  rename_i ho
  obtain ⟨c, h1, hc⟩ := bV hc
  obtain ⟨x, h2, hc⟩ := bV hc
  obtain ⟨y, h3, hc⟩ := bV hc
  cases hc
  refine pureOut h fun v hv => ?_
  have := pick_ok (P := P) (w := w) hv
  simp only [execOp, ho, opd_ev hrel h1, opd_ev hrel h2, opd_ev hrel h3]
  exact this
 ·rename_i ho
  obtain ⟨z, hz, hc⟩ := bV hc
  cases hc
  exact alloc_ok ho hz h
 ·rename_i e x ho
  obtain ⟨x', hx, hc⟩ := bV hc
  cases hc
  refine box_ok ho ?_
  rw [opd_ev hrel hx]
  exact h
 ·-- build
  rename_i ho
  obtain ⟨z, hz, hc⟩ := bV hc
  split at hc
  ·rename_i fs hu
   split at hc
   ·rename_i hall
    obtain ⟨ps, hp, hc⟩ := bV hc
    cases hc
    exact pureOut h fun v hv => build_ok hrel ho hz hu hall hp hv
   ·cases hc
  ·rename_i hu
   obtain ⟨sz, hs, hc⟩ := bV hc
   obtain ⟨ps, hp, hc⟩ := bV hc
   cases hc
   exact pureOut h fun v hv => buildA_ok hrel ho hz hu hs hp hv
  ·cases hc
 ·-- buildSlice
  rename_i ho
  split at hc
  ·rename_i hu
   obtain ⟨sz, hs, hc⟩ := bV hc
   obtain ⟨z, hz, hc⟩ := bV hc
   split at hc
   ·rename_i hl
    obtain ⟨ps, hp, hc⟩ := bV hc
    cases hc
    exact bslice_ok hrel ho hu hs hz hl hp h
   ·cases hc
  ·cases hc
 ·-- load
  rename_i ho
  obtain ⟨x, hx, hc⟩ := bV hc
  obtain ⟨g, hg, hc⟩ := bV hc
  split at hc
  ·rename_i hgt
   subst hgt
   obtain ⟨n, hn, hc⟩ := bV hc
   cases hc
   refine pureOut h fun v hv => ?_
   simp only [Read.val, ← opd_ev hrel hx] at hv
   exact loadN_ok ho hg hn hv
  ·rename_i hgt
   obtain rfl : g = false := by simpa using hgt
   cases hc
   refine pureOut h fun v hv => ?_
   simp only [Read.val, ← opd_ev hrel hx] at hv
   exact load1_ok ho hg hv
 ·-- store
  rename_i ho
  obtain ⟨x, hx, hc⟩ := bV hc
  obtain ⟨y, hy, hc⟩ := bV hc
  obtain ⟨n, hn, hc⟩ := bV hc
  cases hc
  obtain ⟨hl, hw⟩ := h
  exact store_ok ho hn (by rw [opd_ev hrel hy]; exact hl) (by rw [opd_ev hrel hy, opd_ev hrel hx]; exact hw)
 ·-- nilCheck
  rename_i ho
  obtain ⟨x, hx, hc⟩ := bV hc
  cases hc
  refine pureOut h fun v hv => ?_
  simp only [Pure.val, ← opd_ev hrel hx] at hv
  exact nil_ok ho hv
 ·-- binOp
  rename_i op t x y yT ho
  obtain ⟨x', hx, hc⟩ := bV hc
  obtain ⟨y', hy, hc⟩ := bV hc
  have ex := opd_ev hrel hx
  have ey := opd_ev hrel hy
  split at hc
  ·cases hc
   refine pureOut h fun v hv => ?_
   simp only [Pure.val, ← ex, ← ey] at hv
   exact bin_ok ho hv
  ·cases hc
   refine pureOut h fun v hv => ?_
   simp only [Pure.val, ← ex, ← ey] at hv
   exact bin_ok ho hv
  ·rename_i hu
   exact eqs_sound (k := .b) ho hu rfl ex ey (by split at hc <;> simp_all) h
  ·rename_i hu
   exact eqs_sound (k := .p) ho hu rfl ex ey (by split at hc <;> simp_all) h
  ·rename_i hu
   exact eqs_sound (k := .s) ho hu rfl ex ey (by split at hc <;> simp_all) h
  ·rename_i hu
   exact eqs_sound (k := .m) ho hu rfl ex ey (by split at hc <;> simp_all) h
  ·rename_i hu
   exact eqs_sound (k := .f) ho hu rfl ex ey (by split at hc <;> simp_all) h
  ·rename_i hu
   split at hc
   ·cases hc
   ·rename_i hgt
    obtain ⟨ks, hk, hc⟩ := bV hc
    have hgt : P.eqGuardType P.depth t = false := by simpa using hgt
    have hag : isAggB P t = some true := by simp only [isAggB, hu]
    have hcc : (op = .eql ∧ m = .p (.eqA ks false x' y')) ∨ (op = .neq ∧ m = .p (.eqA ks true x' y')) := by split at hc <;> simp_all
    rcases hcc with ⟨rfl, rfl⟩ | ⟨rfl, rfl⟩
    ·refine pureOut h fun v hv => ?_
     simp only [Pure.val, ← ex, ← ey] at hv
     exact eqA_ok ho hag hgt hk (neg := false) rfl hv
    ·refine pureOut h fun v hv => ?_
     simp only [Pure.val, ← ex, ← ey] at hv
     exact eqA_ok ho hag hgt hk (neg := true) rfl hv
  ·rename_i hu
   split at hc
   ·cases hc
   ·rename_i hgt
    obtain ⟨ks, hk, hc⟩ := bV hc
    have hgt : P.eqGuardType P.depth t = false := by simpa using hgt
    have hag : isAggB P t = some true := by simp only [isAggB, hu]
    have hcc : (op = .eql ∧ m = .p (.eqA ks false x' y')) ∨ (op = .neq ∧ m = .p (.eqA ks true x' y')) := by split at hc <;> simp_all
    rcases hcc with ⟨rfl, rfl⟩ | ⟨rfl, rfl⟩
    ·refine pureOut h fun v hv => ?_
     simp only [Pure.val, ← ex, ← ey] at hv
     exact eqA_ok ho hag hgt hk (neg := false) rfl hv
    ·refine pureOut h fun v hv => ?_
     simp only [Pure.val, ← ex, ← ey] at hv
     exact eqA_ok ho hag hgt hk (neg := true) rfl hv
  ·exact anyOp_sound hrel hc h
 ·-- unOp
  rename_i ho
  obtain ⟨x, hx, hc⟩ := bV hc
  cases hc
  refine pureOut h fun v hv => ?_
  simp only [Pure.val, ← opd_ev hrel hx] at hv
  exact un_ok ho hv
 ·-- convert
  rename_i ho
  obtain ⟨x, hx, hc⟩ := bV hc
  split at hc
  ·rename_i h1 h2
   cases hc
   refine pureOut h fun v hv => ?_
   simp only [Pure.val, ← opd_ev hrel hx] at hv
   exact conv_ok ho h1 h2 hv
  ·rename_i h1 h2
   split at hc
   ·rename_i h3
    cases hc
    exact s2b_ok ho h1 h2 h3 (by rw [opd_ev hrel hx]; exact h)
   ·cases hc
  ·exact anyOp_sound hrel hc h
 ·-- makeFunc
  rename_i ho
  obtain ⟨xs, hx, hc⟩ := bV hc
  obtain ⟨ys, hy, hc⟩ := bV hc
  cases hc
  refine pureOut (v := some (.func _ _ _)) h fun v hv => ?_
  cases hv
  exact func_ok ho (opds_ev hrel hx) (opds_ev hrel hy)
 ·-- makeSlice
  rename_i ho
  obtain ⟨l, hl, hc⟩ := bV hc
  obtain ⟨c, hcc, hc⟩ := bV hc
  split at hc
  ·rename_i hu
   obtain ⟨sz, hs, hc⟩ := bV hc
   obtain ⟨by_, hb, hc⟩ := bV hc
   obtain ⟨z, hz, hc⟩ := bV hc
   split at hc
   ·rename_i hzz
    cases hc
    exact mk_ok ho hu hs hb hz hzz (by rw [opd_ev hrel hl, opd_ev hrel hcc]; exact h)
   ·cases hc
  ·cases hc
 ·-- slice
  rename_i t x lo hi mx ho
  obtain ⟨x', hx, hc⟩ := bV hc
  obtain ⟨lo', hlo, hc⟩ := bV hc
  obtain ⟨hi', hhi, hc⟩ := bV hc
  obtain ⟨mx', hmx, hc⟩ := bV hc
  split at hc
  ·cases hc
  ·rename_i hmh
   have hmh' : (mx.isSome && hi.isNone) = false := by cases h : (mx.isSome && hi.isNone) with | true => exact absurd h hmh | false => rfl
   have e1 := opd_ev hrel hx
   have e2 := opdO_ev hrel hlo
   have e3 := opdO_ev hrel hhi
   have e4 := opdO_ev hrel hmx
   split at hc
   ·rename_i hu
    obtain ⟨sz, hs, hc⟩ := bV hc
    cases hc
    refine pureOut h fun v hv => ?_
    simp only [Pure.val, ← e1, ← e2, ← e3, ← e4] at hv
    exact cutA_ok ho hu hs hmh' hv
   ·rename_i hu
    split at hc
    ·cases hc
    ·rename_i hm
     injection hc with hc
     subst hc
     have hmn : mx = none := by cases mx <;> simp_all
     rw [hmn] at ho
     refine pureOut h fun v hv => ?_
     simp only [Pure.val, ← e1, ← e2, ← e3] at hv
     exact cutT_ok ho hu hv
   ·rename_i hu
    obtain ⟨sz, hs, hc⟩ := bV hc
    cases hc
    refine pureOut h fun v hv => ?_
    simp only [Pure.val, ← e1, ← e2, ← e3, ← e4] at hv
    exact cutS_ok ho hu hs hmh' hv
   ·rename_i hu
    split at hc
    ·rename_i hu2
     obtain ⟨sz, hs, hc⟩ := bV hc
     cases hc
     refine pureOut h fun v hv => ?_
     simp only [Pure.val, ← e1, ← e2, ← e3, ← e4] at hv
     exact cutP_ok ho hu hu2 hs hmh' hv
    ·cases hc
   ·cases hc
 ·-- fieldAddr
  rename_i ho
  obtain ⟨x, hx, hc⟩ := bV hc
  split at hc
  ·rename_i hu
   split at hc
   ·rename_i hf
    obtain ⟨sz, hs, hc⟩ := bV hc
    split at hc
    ·cases hc
    ·rename_i h0
     cases hc
     refine pureOut h fun v hv => ?_
     simp only [Pure.val, ← opd_ev hrel hx] at hv
     exact fieldAddr_ok ho hu hf hs h0 hv
   ·cases hc
  ·cases hc
 ·-- field
  rename_i ho
  obtain ⟨x, hx, hc⟩ := bV hc
  split at hc
  ·rename_i hu
   split at hc
   ·rename_i hf
    obtain ⟨sz, hs, hc⟩ := bV hc
    obtain ⟨g, hg, hc⟩ := bV hc
    cases hc
    refine pureOut h fun v hv => ?_
    simp only [Pure.val, ← opd_ev hrel hx] at hv
    exact field_ok ho hu hf hs hg hv
   ·cases hc
  ·cases hc
 ·-- indexAddr
  rename_i ho
  obtain ⟨x, hx, hc⟩ := bV hc
  obtain ⟨i, hi, hc⟩ := bV hc
  split at hc
  ·rename_i hu
   obtain ⟨sz, hs, hc⟩ := bV hc
   cases hc
   refine pureOut h fun v hv => ?_
   simp only [Pure.val, ← opd_ev hrel hx, ← opd_ev hrel hi] at hv
   exact idxS_ok ho hu hs hv
  ·rename_i hu
   obtain ⟨sz, hs, hc⟩ := bV hc
   cases hc
   refine pureOut h fun v hv => ?_
   simp only [Pure.val, ← opd_ev hrel hx, ← opd_ev hrel hi] at hv
   exact idxA_ok ho hu hs hv
  ·cases hc
 ·-- index
  rename_i ho
  obtain ⟨x, hx, hc⟩ := bV hc
  obtain ⟨i, hi, hc⟩ := bV hc
  split at hc
  ·rename_i hu
   cases hc
   refine pureOut h fun v hv => ?_
   simp only [Pure.val, ← opd_ev hrel hx, ← opd_ev hrel hi] at hv
   exact idxT_ok ho hu hv
  ·rename_i hu
   obtain ⟨sz, hs, hc⟩ := bV hc
   obtain ⟨g, hg, hc⟩ := bV hc
   cases hc
   refine pureOut h fun v hv => ?_
   simp only [Pure.val, ← opd_ev hrel hx, ← opd_ev hrel hi] at hv
   exact idxG_ok ho hu hs hg hv
  ·cases hc
 ·-- extract
  rename_i ho
  obtain ⟨x, hx, hc⟩ := bV hc
  cases hc
  refine pureOut h fun v hv => ?_
  simp only [Pure.val, ← opd_ev hrel hx] at hv
  exact extr_ok ho hv
 ·rename_i ho
  split at hc
  ·rename_i m' hm'
   cases hc
   exact compCall_sound ho hrel hm' h
  ·split at hc
   ·rename_i hall
    cases hc
    exact any_ok hrel hall h
   ·cases hc
 ·exact anyOp_sound hrel hc h
end
section
variable {P : Program} {N : Nat} {a : Act} {ρ : Env} {w : World}
def MOp.val (ρ : Env) (h : Heap) : MOp → Option Value
 | .p x => x.val ρ
 | .r x => x.val ρ h
 | .e _ => none
theorem compCall_exact {o : Oper} {c : Call} (ho : o.op = .call c) (hrel : Rel N a ρ) {m : MOp} (hc : compCall P N c = some m) (hm : isEff m = false) {v : Value} (hv : m.val ρ w.heap = some v) : (execOp a.eval o).run P w = .ok (.value v) w := by
 unfold compCall at hc
 split at hc
 ·rename_i b hcl
  obtain ⟨xs, hxs, hc⟩ := bV hc
  have hargs := args_of hrel hxs
  split at hc
  ·-- len
   rename_i x
   obtain ⟨t, ht, hc⟩ := bV hc
   split at hc
   ·rename_i hu
    cases hc
    obtain ⟨s, hx, rfl⟩ := lenT_spec (x := ev ρ _) hv
    simp [execOp, ho, resolve, hcl, hargs, hx, invoke, builtin, Builtin.len_, ht, und_run hu, goInt]
   ·rename_i hu
    cases hc
    obtain ⟨_, n, _, hx, rfl⟩ := lenS_spec (x := ev ρ _) hv
    simp [execOp, ho, resolve, hcl, hargs, hx, invoke, builtin, Builtin.len_, ht, und_run hu, goInt]
   ·rename_i hu
    cases hc
    cases hv
    simp [execOp, ho, resolve, hcl, hargs, invoke, builtin, Builtin.len_, ht, und_run hu, goInt]
   ·rename_i hu
    split at hc
    ·rename_i hu2
     cases hc
     cases hv
     simp [execOp, ho, resolve, hcl, hargs, invoke, builtin, Builtin.len_, ht, und_run hu, und_run hu2, goInt]
    ·cases hc
   ·cases hc
  ·-- cap
   rename_i x
   obtain ⟨t, ht, hc⟩ := bV hc
   split at hc
   ·rename_i hu
    cases hc
    simp only [MOp.val, Pure.val] at hv
    unfold capV at hv
    split at hv <;> first | (cases hv; done) | skip
    cases hv; rename_i hx
    simp [execOp, ho, resolve, hcl, hargs, hx, invoke, builtin, Builtin.cap_, ht, und_run hu, goInt]
   ·cases hc
  ·rename_i x ys
   cases hc
   simp only [MOp.val, Pure.val] at hv
   have hf := fold_ok (P := P) (w := w) (g := Builtin.min2) (fun x y v => min2_ok) _ _ _ hv
   simp [execOp, ho, resolve, hcl, hargs, invoke, builtin, Builtin.min_, hf]
  ·rename_i x ys
   cases hc
   simp only [MOp.val, Pure.val] at hv
   have hf := fold_ok (P := P) (w := w) (g := Builtin.max2) (fun x y v => max2_ok) _ _ _ hv
   simp [execOp, ho, resolve, hcl, hargs, invoke, builtin, Builtin.max_, hf]
  ·-- append
   rename_i x y _
   obtain ⟨t, ht, hc⟩ := bV hc
   obtain ⟨u, ht2, hc⟩ := bV hc
   obtain ⟨x', y', hx⟩ : ∃ x' y', c.args.toList = [x', y'] ∧ a.eval x' = ev ρ x ∧ a.eval y' = ev ρ y := by
    have := opds_ev hrel hxs
    match hl : c.args.toList with
    | [] => simp [hl] at this
    | [_] => simp [hl] at this
    | [p, q] => rw [hl] at this; simp at this; exact ⟨p, q, rfl, this.1, this.2⟩
    | _ :: _ :: _ :: _ => simp [hl] at this
   obtain ⟨hx, hex, hey⟩ := hx
   split at hc
   ·rename_i e e' hu hd
    obtain ⟨sz, hs, hc⟩ := bV hc
    obtain ⟨by_, hb, hc⟩ := bV hc
    obtain ⟨z, hz, hc⟩ := bV hc
    split at hc
    ·rename_i hl
     cases hc
     cases hm
    ·cases hc
   ·rename_i e hu hd
    obtain ⟨sz, hs, hc⟩ := bV hc
    obtain ⟨by_, hb, hc⟩ := bV hc
    obtain ⟨z, hz, hc⟩ := bV hc
    split at hc
    ·rename_i hl
     cases hc
     cases hm
    ·cases hc
   ·cases hc
  ·-- copy
   rename_i x y _
   obtain ⟨t, ht, hc⟩ := bV hc
   obtain ⟨x', y', hx⟩ : ∃ x' y', c.args.toList = [x', y'] ∧ a.eval x' = ev ρ x ∧ a.eval y' = ev ρ y := by
    have := opds_ev hrel hxs
    match hl : c.args.toList with
    | [] => simp [hl] at this
    | [_] => simp [hl] at this
    | [p, q] => rw [hl] at this; simp at this; exact ⟨p, q, rfl, this.1, this.2⟩
    | _ :: _ :: _ :: _ => simp [hl] at this
   obtain ⟨hx, hex, hey⟩ := hx
   split at hc
   ·rename_i e hu
    obtain ⟨sz, hs, hc⟩ := bV hc
    split at hc
    ·cases hc
     cases hm
    ·cases hc
   ·cases hc
  ·-- clear
   rename_i x _
   obtain ⟨t, ht, hc⟩ := bV hc
   obtain ⟨x', hx, hex⟩ : ∃ x', c.args.toList = [x'] ∧ a.eval x' = ev ρ x := by
    have := opds_ev hrel hxs
    match hl : c.args.toList with
    | [] => simp [hl] at this
    | [p] => rw [hl] at this; simp at this; exact ⟨p, rfl, this⟩
    | _ :: _ :: _ => simp [hl] at this
   split at hc
   ·rename_i e hu
    obtain ⟨sz, hs, hc⟩ := bV hc
    obtain ⟨z, hz, hc⟩ := bV hc
    split at hc
    ·rename_i hl
     cases hc
     cases hm
    ·cases hc
   ·cases hc
  ·cases hc
 ·rename_i f hcl
  obtain ⟨y, hy, hc⟩ := bV hc
  obtain ⟨xs, hxs, hc⟩ := bV hc
  have he := opd_ev hrel hy
  have hargs := opds_ev hrel hxs
  split at hc
  ·rename_i g p q
   split at hc
   ·rename_i hok
    simp only [Bool.and_eq_true, Array.isEmpty_iff] at hok
    obtain ⟨⟨rfl, rfl⟩, hok⟩ := hok
    cases hc
    cases hm
   ·cases hc
  ·cases hc
   cases hm
  ·cases hc
 ·cases hc
theorem anyOp_exact {o : Oper} (hrel : Rel N a ρ) {m : MOp} (hc : anyOp N o = some m) (hm : isEff m = false) {v : Value} (hv : m.val ρ w.heap = some v) : (execOp a.eval o).run P w = .ok (.value v) w := by
 unfold anyOp at hc
 split at hc
 ·cases hc
 ·cases hc
 ·split at hc
  ·rename_i hall
   cases hc
   cases hm
  ·cases hc
theorem eqs_exact {o : Oper} {op : BinOp} {T yT : TypeId} {x y : Operand} (ho : o.op = .binOp op T x y yT) {k : EK} {d : TypeDesc} (hu : P.underlying T = some d) (hd : ekOk k d = true)
  {x' y' : Opd} (hx : a.eval x = ev ρ x') (hy : a.eval y = ev ρ y') {m : MOp}
  (hc : (op = .eql ∧ m = .p (.eq k false x' y')) ∨ (op = .neq ∧ m = .p (.eq k true x' y'))) (hm : isEff m = false) {v : Value} (hv : m.val ρ w.heap = some v) : (execOp a.eval o).run P w = .ok (.value v) w := by
 rcases hc with ⟨rfl, rfl⟩ | ⟨rfl, rfl⟩
 ·simp only [MOp.val, Pure.val, ← hx, ← hy] at hv
  exact eq_ok ho hu hd (neg := false) rfl hv
 ·simp only [MOp.val, Pure.val, ← hx, ← hy] at hv
  exact eq_ok ho hu hd (neg := true) rfl hv
set_option maxHeartbeats 1000000 in
theorem compOp_exact {o : Oper} (hrel : Rel N a ρ) {m : MOp} (hc : compOp P N o = some m) (hm : isEff m = false) {v : Value} (hv : m.val ρ w.heap = some v) : (execOp a.eval o).run P w = .ok (.value v) w := by
 unfold compOp at hc
 split at hc
 ·-- move
  rename_i ho
  obtain ⟨x, hx, hc⟩ := bV hc
  cases hc
  cases hv
  simp [execOp, ho, opd_ev hrel hx]
 ·rename_i ho
  obtain ⟨x, hx, hc⟩ := bV hc
  cases hc
  cases hv
  simp [execOp, ho, opd_ev hrel hx]
 ·-- pick
  rename_i ho
  obtain ⟨c, h1, hc⟩ := bV hc
  obtain ⟨x, h2, hc⟩ := bV hc
  obtain ⟨y, h3, hc⟩ := bV hc
  cases hc
  have := pick_ok (P := P) (w := w) hv
  simp only [execOp, ho, opd_ev hrel h1, opd_ev hrel h2, opd_ev hrel h3]
  exact this
 ·rename_i ho
  obtain ⟨z, hz, hc⟩ := bV hc
  cases hc
  cases hm
 ·rename_i e x ho
  obtain ⟨x', hx, hc⟩ := bV hc
  cases hc
  cases hm
 ·-- build
  rename_i ho
  obtain ⟨z, hz, hc⟩ := bV hc
  split at hc
  ·rename_i fs hu
   split at hc
   ·rename_i hall
    obtain ⟨ps, hp, hc⟩ := bV hc
    cases hc
    exact build_ok hrel ho hz hu hall hp hv
   ·cases hc
  ·rename_i hu
   obtain ⟨sz, hs, hc⟩ := bV hc
   obtain ⟨ps, hp, hc⟩ := bV hc
   cases hc
   exact buildA_ok hrel ho hz hu hs hp hv
  ·cases hc
 ·-- buildSlice
  rename_i ho
  split at hc
  ·rename_i hu
   obtain ⟨sz, hs, hc⟩ := bV hc
   obtain ⟨z, hz, hc⟩ := bV hc
   split at hc
   ·rename_i hl
    obtain ⟨ps, hp, hc⟩ := bV hc
    cases hc
    cases hm
   ·cases hc
  ·cases hc
 ·-- load
  rename_i ho
  obtain ⟨x, hx, hc⟩ := bV hc
  obtain ⟨g, hg, hc⟩ := bV hc
  split at hc
  ·rename_i hgt
   subst hgt
   obtain ⟨n, hn, hc⟩ := bV hc
   cases hc
   simp only [MOp.val, Read.val, ← opd_ev hrel hx] at hv
   exact loadN_ok ho hg hn hv
  ·rename_i hgt
   obtain rfl : g = false := by simpa using hgt
   cases hc
   simp only [MOp.val, Read.val, ← opd_ev hrel hx] at hv
   exact load1_ok ho hg hv
 ·-- store
  rename_i ho
  obtain ⟨x, hx, hc⟩ := bV hc
  obtain ⟨y, hy, hc⟩ := bV hc
  obtain ⟨n, hn, hc⟩ := bV hc
  cases hc
  cases hm
 ·-- nilCheck
  rename_i ho
  obtain ⟨x, hx, hc⟩ := bV hc
  cases hc
  simp only [MOp.val, Pure.val, ← opd_ev hrel hx] at hv
  exact nil_ok ho hv
 ·-- binOp
  rename_i op t x y yT ho
  obtain ⟨x', hx, hc⟩ := bV hc
  obtain ⟨y', hy, hc⟩ := bV hc
  have ex := opd_ev hrel hx
  have ey := opd_ev hrel hy
  split at hc
  ·cases hc
   simp only [MOp.val, Pure.val, ← ex, ← ey] at hv
   exact bin_ok ho hv
  ·cases hc
   simp only [MOp.val, Pure.val, ← ex, ← ey] at hv
   exact bin_ok ho hv
  ·rename_i hu
   exact eqs_exact (k := .b) ho hu rfl ex ey (by split at hc <;> simp_all) hm hv
  ·rename_i hu
   exact eqs_exact (k := .p) ho hu rfl ex ey (by split at hc <;> simp_all) hm hv
  ·rename_i hu
   exact eqs_exact (k := .s) ho hu rfl ex ey (by split at hc <;> simp_all) hm hv
  ·rename_i hu
   exact eqs_exact (k := .m) ho hu rfl ex ey (by split at hc <;> simp_all) hm hv
  ·rename_i hu
   exact eqs_exact (k := .f) ho hu rfl ex ey (by split at hc <;> simp_all) hm hv
  ·rename_i hu
   split at hc
   ·cases hc
   ·rename_i hgt
    obtain ⟨ks, hk, hc⟩ := bV hc
    have hgt : P.eqGuardType P.depth t = false := by simpa using hgt
    have hag : isAggB P t = some true := by simp only [isAggB, hu]
    have hcc : (op = .eql ∧ m = .p (.eqA ks false x' y')) ∨ (op = .neq ∧ m = .p (.eqA ks true x' y')) := by split at hc <;> simp_all
    rcases hcc with ⟨rfl, rfl⟩ | ⟨rfl, rfl⟩
    ·simp only [MOp.val, Pure.val, ← ex, ← ey] at hv
     exact eqA_ok ho hag hgt hk (neg := false) rfl hv
    ·simp only [MOp.val, Pure.val, ← ex, ← ey] at hv
     exact eqA_ok ho hag hgt hk (neg := true) rfl hv
  ·rename_i hu
   split at hc
   ·cases hc
   ·rename_i hgt
    obtain ⟨ks, hk, hc⟩ := bV hc
    have hgt : P.eqGuardType P.depth t = false := by simpa using hgt
    have hag : isAggB P t = some true := by simp only [isAggB, hu]
    have hcc : (op = .eql ∧ m = .p (.eqA ks false x' y')) ∨ (op = .neq ∧ m = .p (.eqA ks true x' y')) := by split at hc <;> simp_all
    rcases hcc with ⟨rfl, rfl⟩ | ⟨rfl, rfl⟩
    ·simp only [MOp.val, Pure.val, ← ex, ← ey] at hv
     exact eqA_ok ho hag hgt hk (neg := false) rfl hv
    ·simp only [MOp.val, Pure.val, ← ex, ← ey] at hv
     exact eqA_ok ho hag hgt hk (neg := true) rfl hv
  ·exact anyOp_exact hrel hc hm hv
 ·-- unOp
  rename_i ho
  obtain ⟨x, hx, hc⟩ := bV hc
  cases hc
  simp only [MOp.val, Pure.val, ← opd_ev hrel hx] at hv
  exact un_ok ho hv
 ·-- convert
  rename_i ho
  obtain ⟨x, hx, hc⟩ := bV hc
  split at hc
  ·rename_i h1 h2
   cases hc
   simp only [MOp.val, Pure.val, ← opd_ev hrel hx] at hv
   exact conv_ok ho h1 h2 hv
  ·rename_i h1 h2
   split at hc
   ·rename_i h3
    cases hc
    cases hm
   ·cases hc
  ·exact anyOp_exact hrel hc hm hv
 ·-- makeFunc
  rename_i ho
  obtain ⟨xs, hx, hc⟩ := bV hc
  obtain ⟨ys, hy, hc⟩ := bV hc
  cases hc
  cases hv
  exact func_ok ho (opds_ev hrel hx) (opds_ev hrel hy)
 ·-- makeSlice
  rename_i ho
  obtain ⟨l, hl, hc⟩ := bV hc
  obtain ⟨c, hcc, hc⟩ := bV hc
  split at hc
  ·rename_i hu
   obtain ⟨sz, hs, hc⟩ := bV hc
   obtain ⟨by_, hb, hc⟩ := bV hc
   obtain ⟨z, hz, hc⟩ := bV hc
   split at hc
   ·rename_i hzz
    cases hc
    cases hm
   ·cases hc
  ·cases hc
 ·-- slice
  rename_i t x lo hi mx ho
  obtain ⟨x', hx, hc⟩ := bV hc
  obtain ⟨lo', hlo, hc⟩ := bV hc
  obtain ⟨hi', hhi, hc⟩ := bV hc
  obtain ⟨mx', hmx, hc⟩ := bV hc
  split at hc
  ·cases hc
  ·rename_i hmh
   have hmh' : (mx.isSome && hi.isNone) = false := by cases h : (mx.isSome && hi.isNone) with | true => exact absurd h hmh | false => rfl
   have e1 := opd_ev hrel hx
   have e2 := opdO_ev hrel hlo
   have e3 := opdO_ev hrel hhi
   have e4 := opdO_ev hrel hmx
   split at hc
   ·rename_i hu
    obtain ⟨sz, hs, hc⟩ := bV hc
    cases hc
    simp only [MOp.val, Pure.val, ← e1, ← e2, ← e3, ← e4] at hv
    exact cutA_ok ho hu hs hmh' hv
   ·rename_i hu
    split at hc
    ·cases hc
    ·rename_i hm
     injection hc with hc
     subst hc
     have hmn : mx = none := by cases mx <;> simp_all
     rw [hmn] at ho
     simp only [MOp.val, Pure.val, ← e1, ← e2, ← e3] at hv
     exact cutT_ok ho hu hv
   ·rename_i hu
    obtain ⟨sz, hs, hc⟩ := bV hc
    cases hc
    simp only [MOp.val, Pure.val, ← e1, ← e2, ← e3, ← e4] at hv
    exact cutS_ok ho hu hs hmh' hv
   ·rename_i hu
    split at hc
    ·rename_i hu2
     obtain ⟨sz, hs, hc⟩ := bV hc
     cases hc
     simp only [MOp.val, Pure.val, ← e1, ← e2, ← e3, ← e4] at hv
     exact cutP_ok ho hu hu2 hs hmh' hv
    ·cases hc
   ·cases hc
 ·-- fieldAddr
  rename_i ho
  obtain ⟨x, hx, hc⟩ := bV hc
  split at hc
  ·rename_i hu
   split at hc
   ·rename_i hf
    obtain ⟨sz, hs, hc⟩ := bV hc
    split at hc
    ·cases hc
    ·rename_i h0
     cases hc
     simp only [MOp.val, Pure.val, ← opd_ev hrel hx] at hv
     exact fieldAddr_ok ho hu hf hs h0 hv
   ·cases hc
  ·cases hc
 ·-- field
  rename_i ho
  obtain ⟨x, hx, hc⟩ := bV hc
  split at hc
  ·rename_i hu
   split at hc
   ·rename_i hf
    obtain ⟨sz, hs, hc⟩ := bV hc
    obtain ⟨g, hg, hc⟩ := bV hc
    cases hc
    simp only [MOp.val, Pure.val, ← opd_ev hrel hx] at hv
    exact field_ok ho hu hf hs hg hv
   ·cases hc
  ·cases hc
 ·-- indexAddr
  rename_i ho
  obtain ⟨x, hx, hc⟩ := bV hc
  obtain ⟨i, hi, hc⟩ := bV hc
  split at hc
  ·rename_i hu
   obtain ⟨sz, hs, hc⟩ := bV hc
   cases hc
   simp only [MOp.val, Pure.val, ← opd_ev hrel hx, ← opd_ev hrel hi] at hv
   exact idxS_ok ho hu hs hv
  ·rename_i hu
   obtain ⟨sz, hs, hc⟩ := bV hc
   cases hc
   simp only [MOp.val, Pure.val, ← opd_ev hrel hx, ← opd_ev hrel hi] at hv
   exact idxA_ok ho hu hs hv
  ·cases hc
 ·-- index
  rename_i ho
  obtain ⟨x, hx, hc⟩ := bV hc
  obtain ⟨i, hi, hc⟩ := bV hc
  split at hc
  ·rename_i hu
   cases hc
   simp only [MOp.val, Pure.val, ← opd_ev hrel hx, ← opd_ev hrel hi] at hv
   exact idxT_ok ho hu hv
  ·rename_i hu
   obtain ⟨sz, hs, hc⟩ := bV hc
   obtain ⟨g, hg, hc⟩ := bV hc
   cases hc
   simp only [MOp.val, Pure.val, ← opd_ev hrel hx, ← opd_ev hrel hi] at hv
   exact idxG_ok ho hu hs hg hv
  ·cases hc
 ·-- extract
  rename_i ho
  obtain ⟨x, hx, hc⟩ := bV hc
  cases hc
  simp only [MOp.val, Pure.val, ← opd_ev hrel hx] at hv
  exact extr_ok ho hv
 ·rename_i ho
  split at hc
  ·rename_i m' hm'
   cases hc
   exact compCall_exact ho hrel hm' hm hv
  ·split at hc
   ·cases hc
    cases hm
   ·cases hc
 ·exact anyOp_exact hrel hc hm hv
end
section
variable {P : Program} {N : Nat}
theorem wanted_guard {a : Act} {ρ : Env} (hrel : Rel N a ρ) {ops : Array Oper} {o : Oper} {g : Option (Nat × Bool)} (hg : guardC N ops.toList o.guard = some g) :
  Region.wanted o (yielded ops a.tmps) = wantB ρ g := by
 unfold guardC at hg
 unfold Region.wanted
 split at hg
 ·rename_i h; cases hg; simp [h, wantB]
 ·rename_i j want h
  split at hg
  ·rename_i o' ho'
   split at hg
   ·rename_i d hd
    split at hg
    ·rename_i hlt
     cases hg
     have h1 : ops[j]? = some o' := by rw [← Array.getElem?_toList]; exact ho'
     have h2 : a.tmps[d]? = some (ρ d) := by
      have := hrel.get d
      rw [Array.getD_eq_getD_getElem?] at this
      have hs : d < a.tmps.size := by rw [hrel.size]; exact hlt
      rw [Array.getElem?_eq_getElem hs] at this ⊢
      exact congrArg some this
     simp only [h, yielded, h1, Option.bind_some, hd, h2, wantB]
     cases ρ d <;> simp
    ·cases hg
   ·cases hg
  ·cases hg
def lift (N : Nat) (ds : List Deferred) (w0 : World) (Q : MExit → Env → Heap → Prop) : Exit → Act → World → Prop
 | .normal, a, w => a.defers = ds ∧ Alike w0 w ∧ ∃ ρ, Rel N a ρ ∧ Q .normal ρ w.heap
 | .exit id, a, w => a.defers = ds ∧ Alike w0 w ∧ ∃ ρ, Rel N a ρ ∧ Q (.exit id) ρ w.heap
 | .ret, a, w => a.defers = ds ∧ Alike w0 w ∧ ∃ ρ, Rel N a ρ ∧ Q .ret ρ w.heap
 | _, _, _ => False
theorem put_defers (a : Act) (d : Option Nat) (v : Value) : (a.put d v).defers = a.defers := by cases d <;> rfl
theorem ops_sound {ds : List Deferred} {w0 : World} {Q : MExit → Env → Heap → Prop} {ops : Array Oper} : ∀ (l : List Oper) (ms : List MOper) (a : Act) (ρ : Env) (w : World),
  Rel N a ρ → a.defers = ds → Alike w0 w → compOps P N ops.toList l = some ms → opsWp P ms (fun ρ h => Q .normal ρ h) ρ w.heap → wpList P ops (lift N ds w0 Q) l a w
 | [], ms, a, ρ, w, hrel, hd, ha, hc, h => by
  cases hc
  exact ⟨hd, ha, ρ, hrel, h⟩
 | o :: os, ms, a, ρ, w, hrel, hd, ha, hc, h => by
  simp only [compOps] at hc
  split at hc
  case isFalse => cases hc
  rename_i hdst
  obtain ⟨m, hm, hc⟩ := bV hc
  obtain ⟨g, hg, hc⟩ := bV hc
  obtain ⟨mr, hr, hc⟩ := bV hc
  cases hc
  simp only [opsWp, gateW] at h
  refine wpList_step fun K hK => ?_
  rw [wanted_guard hrel hg]
  split
  ·rename_i hw
   rw [if_pos hw] at h
   refine OpOut.wp (compOp_sound hrel hm h) fun v w' ha' hk => hK _ _ ?_
   exact ops_sound os mr _ _ w' (hrel.put _ hdst _) (by rw [put_defers]; exact hd) (ha.trans ha') hr hk
  ·rename_i hw
   rw [if_neg hw] at h
   refine hK _ _ ?_
   exact ops_sound os mr _ _ w (hrel.put _ hdst _) (by rw [put_defers]; exact hd) ha hr h
end
end Go.Proofs.YtcgbhcgfdcfmaaaGreat.MX
