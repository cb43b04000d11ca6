/- The row of the law AuditHolds, out of its walk. -/
import Derived.Test.YtjagmebglhbdkaaGreatRows
import Derived.Test.YtjagmebglhbdkaaGreatK46
import Derived.WalkKit
import Derived.ProofKit
import Derived.OpenShut
import Derived.ShutString
import Derived.ChangeOld
import Derived.Below
import Derived.SizedLaws
namespace Go.Proofs.YtjagmebglhbdkaaGreat.auditHolds
open Go.ChangeShapes Go.WideShapes Go.ChangeAt Go.RowKit
open Go.ChangeMaps (open_string shut_string)
set_option linter.unusedVariables false
theorem own : ownKnob Tryz.prog.godebug = none := by kernel_rfl
theorem laidOut : laidOutB Tryz.prog = true := by kernel_rfl
set_option maxRecDepth 100000 in
theorem lifted (os : Os) (started : os.Started) (H : Type) (enc : TypeId × Value → H) :
    ReturnsInHanded {} Tryz.checked os 8 .any (Rows.auditHoldsSpec.pre6 enc Tryz.prog Tryz.f8 Rows.auditHoldsRow.domain false) (Rows.auditHoldsSpec.post enc Tryz.prog Tryz.f8 false true false false) := by
  refine returnsInHanded_of_change_sized (C := Tryz.checked) own started (by kernel_rfl) Tryz.func8
    (ChangeSpec.witness6 (enc := enc) (C := Tryz.checked) false ⟨#[], #[.agg #[.slice none 0 0, .slice none 0 0, .slice none 0 0], .slice none 0 0], []⟩ 8 (by kernel_rfl) (by kernel_rfl) (by kernel_rfl) (by kernel_rfl)) ?_
  intro W base args ds gs before hval0 hW hcnd hsz0 _
  have hsz : (DataW.weightsEach Tryz.prog (Tryz.f8.params.toList ++ Rows.auditHoldsSpec.plain.varTypes Tryz.prog) (ds ++ gs)).all (· ≤ reachBytes) = true := hsz0
  have hval : ∀ (j : Nat) t v, Tryz.f8.params[j]? = some t → args[j]? = some v → Value.okWide Tryz.prog W .any base t v := hval0
  have hW' := hW
  obtain ⟨p, q, hA0, hV, rfl, hfz, hnd⟩ := hW
  have hA : DataW.TrodAll enc Tryz.prog W 0 (fun _ => true) true Tryz.f8.params.toList args.toList ds p := hA0
  rw [Tryz.params8] at hA hval hsz
  obtain ⟨v0, vs0, d0, ds0, p0, q0, hargs, rfl, rfl, h0, r0⟩ := trodAll_cons hA
  obtain ⟨v1, vs1, d1, ds1, p1, q1, rfl, rfl, rfl, h1, r1⟩ := trodAll_cons r0
  obtain ⟨rfl, rfl, rfl⟩ := trodAll_nil r1
  obtain rfl : args = #[v0, v1] := by cases args; simp_all
  obtain ⟨rfl, rfl⟩ := trodVars_none hV
  have k0 := h0
  have lt0 : ∀ x ∈ p0, x.block < W.heap.size := by obtain ⟨m, hm⟩ := k0; exact DataW.trod_lt m _ _ _ hm
  obtain ⟨a0, w0, e0⟩ : ∃ x : MX.Cfg, MX.Cfg.ok W.heap x ∧ v0 = .agg (MX.Cfg.enc x).toArray := by
    obtain ⟨c, hc, _⟩ := okWide_struct Tryz.underlying26 (hval 0 26 v0 rfl rfl)
    obtain ⟨m, hm⟩ := h0
    rw [hc] at hm
    obtain ⟨x, e, w⟩ := MX.c3M (MX.a4A m hm (MX.wts hsz (j := 0) rfl rfl))
    exact ⟨x, w, by rw [hc, ← e]; simp [Value.cells]⟩
  subst e0
  have k1 := h1
  have lt1 : ∀ x ∈ p1, x.block < W.heap.size := by obtain ⟨m, hm⟩ := k1; exact DataW.trod_lt m _ _ _ hm
  obtain ⟨A1, c1, a1, e1, w1, x1, y1, z1⟩ : ∃ (A : Option Addr) (c : Nat) (xs : List MX.j0), v1 = .slice A xs.length c ∧ MX.Arr MX.j0.enc 12 W.heap A xs ∧ xs.length ≤ c ∧ c ≤ maxLen ∧ ∀ x ∈ xs, MX.j0.ok W.heap x := by
    obtain ⟨a, l, c, hc⟩ := okWide_slice Tryz.underlying27 (hval 1 27 v1 rfl rfl)
    obtain ⟨m, hm⟩ := h1
    rw [hc] at hm
    have hl := MX.L9 (P := Tryz.prog) 1 (MX.a4A m hm (MX.wts hsz (j := 1) rfl rfl)) (ls := [.slice 44]) (by kernel_rfl)
    obtain ⟨v, cs, he, hg, rfl⟩ := hl
    cases he
    rw [hc]
    exact MX.a2c.arr (enc := MX.j0.enc) (ok := MX.j0.ok W.heap) (by kernel_rfl) (by decide) hg MX.c3O
  subst e1
  clear hA0 hval0 hsz0 hsz
  refine (MX.c3c (MX.a8m a0 A1 c1 a1 W.heap w0 w1 x1 y1 z1)).mono fun e W' ⟨he, bel⟩ => ?_
  subst he
  exact ⟨_, rfl, _, _, _, [], _, [], hW', trodAll_mk1 (shut_bool Tryz.underlying4 _), (trodAll_cons_mk (Below.trod laidOut (by kernel_rfl) (of_decide_eq_true (by kernel_rfl)) k0 bel lt0) (trodAll_cons_mk (Below.trod laidOut (by kernel_rfl) (of_decide_eq_true (by kernel_rfl)) k1 bel lt1) trodAll_mk0)), rfl, bel.frame _, fun h => by cases h⟩
theorem over : Rows.auditHoldsRow.holds Tryz.pinned (OpenSpec.ofChange Rows.auditHoldsSpec) :=
  OpenClaim.holds_of_wide 8 Tryz.f8 rfl rfl rfl rfl rfl rfl rfl ⟨rfl, rfl, rfl, rfl, rfl⟩ rfl rfl rfl rfl rfl (by kernel_rfl) Tryz.func8 (by kernel_rfl)
    (of_decide_eq_true (by kernel_rfl)) (by unfold Func.isWrapper; first | (rw [if_pos (by decide +kernel)]; kernel_rfl) | (rw [if_neg (by decide +kernel)]; exact ⟨rfl, rfl⟩))
    (fun os started H enc _ => lifted os started H enc)
end Go.Proofs.YtjagmebglhbdkaaGreat.auditHolds
namespace Go.Proofs.YtjagmebglhbdkaaGreat
/-- The row, for the claim. -/
theorem auditHolds_holds : Rows.AuditHoldsSaid := auditHolds.over
#print axioms auditHolds_holds
end Go.Proofs.YtjagmebglhbdkaaGreat
