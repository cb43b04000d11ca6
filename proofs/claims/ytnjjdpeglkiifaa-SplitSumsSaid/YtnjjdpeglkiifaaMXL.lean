/- The engine, part L: a whole function, entered. -/
import Derived.Test.YtnjjdpeglkiifaaMXK
namespace Go.Proofs.Ytnjjdpeglkiifaa.MX
open Go
set_option linter.unusedSimpArgs false
set_option linter.unusedVariables false
variable {P : Program} {N : Nat}

structure MFn where
  code : MCode
  res : List MRes
  n : Nat

def compF (P : Program) (f : FuncId) : Option MFn :=
  match P.funcs[f]? with
  | some fn => match fn.body with
    | some c => bindV (compRes P fn.ntmps fn.results.toList) fun rs => some ⟨compC P fn.ntmps c, rs, fn.ntmps⟩
    | none => none
  | none => none

theorem compRes_run {a : Act} {ρ : Env} {w : World} (hr : Rel N a ρ) {F : ResultVar → Sem Value} (hF1 : ∀ t, F (.tmp t) = pure (a.tmps.getD t undef)) (hF2 : ∀ x t, F (.cell x t) = do loadVar t (← asAddr (a.tmps.getD x undef))) :
    ∀ (rv : List ResultVar) (rs : List MRes) (vs : List Value), compRes P N rv = some rs → resVs ρ w.heap rs = some vs → (rv.mapM (m := Sem) F).run P w = .ok vs w
  | [], rs, vs, hc, hv => by cases hc; cases hv; rfl
  | .tmp t :: rv, rs, vs, hc, hv => by
    simp only [compRes] at hc
    split at hc
    · obtain ⟨r, h1, hc⟩ := bindV_eq hc
      cases hc
      simp only [resVs] at hv
      obtain ⟨v, h2, hv⟩ := bindV_eq hv
      obtain ⟨us, h3, hv⟩ := bindV_eq hv
      cases hv
      cases h2
      simp only [List.mapM_cons, hF1, Sem.run_bind, Sem.run_pure, Result.andThen_ok, compRes_run hr hF1 hF2 rv r us h1 h3, hr.get t]
    · cases hc
  | .cell x t :: rv, rs, vs, hc, hv => by
    simp only [compRes] at hc
    split at hc
    · obtain ⟨g, hg, hc⟩ := bindV_eq hc
      obtain ⟨n, hn, hc⟩ := bindV_eq hc
      obtain ⟨r, h1, hc⟩ := bindV_eq hc
      cases hc
      simp only [resVs] at hv
      obtain ⟨v, h2, hv⟩ := bindV_eq hv
      obtain ⟨us, h3, hv⟩ := bindV_eq hv
      cases hv
      have hx := hr.get x
      have hload : (do loadVar t (← asAddr (a.tmps.getD x undef)) : Sem Value).run P w = .ok v w := by
        rw [hx]
        simp only [resV] at h2
        cases g with
        | true =>
          simp only [if_true] at h2
          obtain ⟨cs, hcs, h2⟩ := bindV_eq h2
          cases h2
          obtain ⟨b, off, hv, hl, hrun, _⟩ := rdA_spec (P := P) hcs
          simp only [hv, asAddr, Sem.run_bind, Sem.run_pure, Result.andThen_ok, loadVar, isAggB_run hg, szOf_run hn, if_true, hrun]
        | false =>
          simp only [Bool.false_eq_true, if_false] at h2
          obtain ⟨b, off, hv, hcell⟩ := rd1_spec h2
          simp only [hv, asAddr, Sem.run_bind, Sem.run_pure, Result.andThen_ok, loadVar, isAggB_run hg, Bool.false_eq_true, if_false, run_load, hcell]
      rw [List.mapM_cons]
      simp only [hF2, Sem.run_bind]
      simp only [Sem.run_bind] at hload
      rw [hload]
      simp only [Result.andThen_ok]
      rw [compRes_run hr hF1 hF2 rv r us h1 h3]
      simp only [Result.andThen_ok, Sem.run_pure]
    · cases hc

theorem oneOf_eq (vs : List Value) : (if h : vs.toArray.size = 1 then vs.toArray[0] else .tuple vs.toArray) = oneOf vs := by
  match vs with
  | [] => rfl
  | [v] => rfl
  | _ :: _ :: _ => rfl

theorem results_ok {fn : Func} {a : Act} {ρ : Env} {w : World} (hr : Rel N a ρ) {rs : List MRes} (hc : compRes P N fn.results.toList = some rs) {vs : List Value} (hv : resVs ρ w.heap rs = some vs) :
    (results fn a.tmps).run P w = .ok (oneOf vs) w := by
  unfold results
  rw [Array.mapM_eq_mapM_toList]
  simp only [Sem.run_bind, Sem.run_map]
  rw [compRes_run hr (fun _ => rfl) (fun _ _ => rfl) _ _ _ hc hv]
  simp only [Result.andThen_ok, Sem.run_pure, oneOf_eq]

theorem enter {f : FuncId} {m : MFn} (hc : compF P f = some m) {args : List Value} (hl : args.length ≤ m.n) {h0 : Heap} {R : Value → Heap → Prop}
    (h : mwp P m.code (retW m.res R) (argEnv args) h0) : CallsH P f args h0 R := by
  unfold compF at hc
  split at hc
  · rename_i fn hf
    split at hc
    · rename_i c hb
      obtain ⟨rs, hrs, hc⟩ := bindV_eq hc
      cases hc
      intro w hw
      subst hw
      dsimp only at hl h
      have hrel : Rel fn.ntmps { tmps := args.toArray ++ Array.replicate (fn.ntmps - args.toArray.size) undef, defers := [] } (argEnv args) := by
        refine ⟨by simp; omega, fun t => ?_⟩
        simp only [argEnv, Array.getD_eq_getD_getElem?, List.getD_eq_getElem?_getD, Array.getElem?_append, Array.getElem?_replicate]
        by_cases h1 : t < args.toArray.size
        · simp only [h1, if_true]; simp
        · rw [if_neg h1]
          have h2 : args[t]? = none := List.getElem?_eq_none (by simpa using h1)
          rw [h2]
          split <;> rfl
      have := code_sound c (ds := []) (w0 := w) hrel rfl (.refl w) h
      refine calls_of_wp hf hb (wp_mono this fun e a' w' he => ?_)
      cases e with
      | normal =>
        obtain ⟨hd, ha, ρ, hr, hq⟩ := he
        obtain ⟨vs, hv, hq⟩ := bindO_eq hq
        exact ⟨hd, _, results_ok hr hrs hv, _, rfl, ha, hq⟩
      | ret =>
        obtain ⟨hd, ha, ρ, hr, hq⟩ := he
        obtain ⟨vs, hv, hq⟩ := bindO_eq hq
        exact ⟨hd, _, results_ok hr hrs hv, _, rfl, ha, hq⟩
      | exit id => obtain ⟨_, _, _, _, hq⟩ := he; exact hq.elim
      | goto l => exact he.elim
      | panic c => exact he.elim
      | outgrown => exact he.elim
    · cases hc
  · cases hc

theorem CallsH.mono {f : FuncId} {args : List Value} {h : Heap} {R R' : Value → Heap → Prop} (hc : CallsH P f args h R) (hr : ∀ v h', R v h' → R' v h') : CallsH P f args h R' :=
  fun w hw => (hc w hw).mono fun _ _ ⟨v, he, ha, hv⟩ => ⟨v, he, ha, hr _ _ hv⟩

end Go.Proofs.Ytnjjdpeglkiifaa.MX
