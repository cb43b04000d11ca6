/- The row of the law QueryUnits, out of its walk. -/
import Derived.Test.YtjagmebglhbdkaaGreatRows
import Derived.Test.YtjagmebglhbdkaaGreatK46
import Derived.WalkKit
import Derived.ProofKit
import Derived.OpenShut
import Derived.ShutString
import Derived.ChangeOld
import Derived.Below
import Derived.SizedLaws
namespace Go.Proofs.YtjagmebglhbdkaaGreat.queryUnits
open Go.ChangeShapes Go.WideShapes Go.ChangeAt Go.RowKit
open Go.ChangeMaps (open_string shut_string)
set_option linter.unusedVariables false
theorem own : ownKnob Tryz.prog.godebug = none := by kernel_rfl
theorem laidOut : laidOutB Tryz.prog = true := by kernel_rfl
set_option maxRecDepth 100000 in
theorem lifted (os : Os) (started : os.Started) (H : Type) (enc : TypeId × Value → H) :
    ReturnsInHanded {} Tryz.checked os 7 .any (Rows.queryUnitsSpec.pre6 enc Tryz.prog Tryz.f7 Rows.queryUnitsRow.domain false) (Rows.queryUnitsSpec.post enc Tryz.prog Tryz.f7 false true false false) := by
  refine returnsInHanded_of_change_sized (C := Tryz.checked) own started (by kernel_rfl) Tryz.func7
    (ChangeSpec.witness6 (enc := enc) (C := Tryz.checked) false ⟨#[], #[.agg #[.slice none 0 0, .slice none 0 0, .slice none 0 0], .slice none 0 0, .int .i64 0], []⟩ 8 (by kernel_rfl) (by kernel_rfl) (by kernel_rfl) (by kernel_rfl)) ?_
  intro W base args ds gs before hval0 hW hcnd hsz0 _
  have hsz : (DataW.weightsEach Tryz.prog (Tryz.f7.params.toList ++ Rows.queryUnitsSpec.plain.varTypes Tryz.prog) (ds ++ gs)).all (· ≤ reachBytes) = true := hsz0
  have hval : ∀ (j : Nat) t v, Tryz.f7.params[j]? = some t → args[j]? = some v → Value.okWide Tryz.prog W .any base t v := hval0
  have hW' := hW
  obtain ⟨p, q, hA0, hV, rfl, hfz, hnd⟩ := hW
  have hA : DataW.TrodAll enc Tryz.prog W 0 (fun _ => true) true Tryz.f7.params.toList args.toList ds p := hA0
  rw [Tryz.params7] at hA hval hsz
  obtain ⟨v0, vs0, d0, ds0, p0, q0, hargs, rfl, rfl, h0, r0⟩ := trodAll_cons hA
  obtain ⟨v1, vs1, d1, ds1, p1, q1, rfl, rfl, rfl, h1, r1⟩ := trodAll_cons r0
  obtain ⟨v2, vs2, d2, ds2, p2, q2, rfl, rfl, rfl, h2, r2⟩ := trodAll_cons r1
  obtain ⟨rfl, rfl, rfl⟩ := trodAll_nil r2
  obtain rfl : args = #[v0, v1, v2] := by cases args; simp_all
  obtain ⟨rfl, rfl⟩ := trodVars_none hV
  have k0 := h0
  have lt0 : ∀ x ∈ p0, x.block < W.heap.size := by obtain ⟨m, hm⟩ := k0; exact DataW.trod_lt m _ _ _ hm
  obtain ⟨a0, w0, e0⟩ : ∃ x : MX.Cfg, MX.Cfg.ok W.heap x ∧ v0 = .agg (MX.Cfg.enc x).toArray := by
    obtain ⟨c, hc, _⟩ := okWide_struct Tryz.underlying26 (hval 0 26 v0 rfl rfl)
    obtain ⟨m, hm⟩ := h0
    rw [hc] at hm
    obtain ⟨x, e, w⟩ := MX.c2Z (MX.a4j m hm (MX.wts hsz (j := 0) rfl rfl))
    exact ⟨x, w, by rw [hc, ← e]; simp [Value.cells]⟩
  subst e0
  have k1 := h1
  have lt1 : ∀ x ∈ p1, x.block < W.heap.size := by obtain ⟨m, hm⟩ := k1; exact DataW.trod_lt m _ _ _ hm
  obtain ⟨A1, c1, a1, e1, w1, x1, y1, z1⟩ : ∃ (A : Option Addr) (c : Nat) (xs : List MX.i5), v1 = .slice A xs.length c ∧ MX.Arr MX.i5.enc 12 W.heap A xs ∧ xs.length ≤ c ∧ c ≤ maxLen ∧ ∀ x ∈ xs, MX.i5.ok W.heap x := by
    obtain ⟨a, l, c, hc⟩ := okWide_slice Tryz.underlying27 (hval 1 27 v1 rfl rfl)
    obtain ⟨m, hm⟩ := h1
    rw [hc] at hm
    have hl := MX.L5 (P := Tryz.prog) 1 (MX.a4j m hm (MX.wts hsz (j := 1) rfl rfl)) (ls := [.slice 44]) (by kernel_rfl)
    obtain ⟨v, cs, he, hg, rfl⟩ := hl
    cases he
    rw [hc]
    exact MX.a1O.arr (enc := MX.i5.enc) (ok := MX.i5.ok W.heap) (by kernel_rfl) (by decide) hg MX.c3b
  subst e1
  obtain ⟨a2, rfl, rfl, rfl, w2⟩ := open_int Tryz.underlying3 (hval 2 3 v2 rfl rfl) h2
  clear hA0 hval0 hsz0 hsz
  refine (MX.c2o (MX.a7R a0 A1 c1 a1 a2 W.heap w0 w1 x1 y1 z1 (MX.B6 w2))).mono fun e W' ⟨he, bel⟩ => ?_
  subst he
  exact ⟨_, rfl, _, _, _, [], _, [], hW', trodAll_mk1 (shut_bool Tryz.underlying4 _), (trodAll_cons_mk (Below.trod laidOut (by kernel_rfl) (of_decide_eq_true (by kernel_rfl)) k0 bel lt0) (trodAll_cons_mk (Below.trod laidOut (by kernel_rfl) (of_decide_eq_true (by kernel_rfl)) k1 bel lt1) (trodAll_cons_mk (shut_int Tryz.underlying3 w2) trodAll_mk0))), rfl, bel.frame _, fun h => by cases h⟩
theorem over : Rows.queryUnitsRow.holds Tryz.pinned (OpenSpec.ofChange Rows.queryUnitsSpec) :=
  OpenClaim.holds_of_wide 7 Tryz.f7 rfl rfl rfl rfl rfl rfl rfl ⟨rfl, rfl, rfl, rfl, rfl⟩ rfl rfl rfl rfl rfl (by kernel_rfl) Tryz.func7 (by kernel_rfl)
    (of_decide_eq_true (by kernel_rfl)) (by unfold Func.isWrapper; first | (rw [if_pos (by decide +kernel)]; kernel_rfl) | (rw [if_neg (by decide +kernel)]; exact ⟨rfl, rfl⟩))
    (fun os started H enc _ => lifted os started H enc)
end Go.Proofs.YtjagmebglhbdkaaGreat.queryUnits
namespace Go.Proofs.YtjagmebglhbdkaaGreat
/-- The row, for the claim. -/
theorem queryUnits_holds : Rows.QueryUnitsSaid := queryUnits.over
#print axioms queryUnits_holds
end Go.Proofs.YtjagmebglhbdkaaGreat
