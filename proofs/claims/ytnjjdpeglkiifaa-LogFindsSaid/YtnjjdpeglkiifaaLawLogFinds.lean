/- The row of the law LogFinds, out of its walk. -/
import Derived.Test.YtnjjdpeglkiifaaRows
import Derived.Test.YtnjjdpeglkiifaaK25
import Derived.WalkKit
import Derived.ProofKit
import Derived.OpenShut
import Derived.ShutString
import Derived.ChangeOld
import Derived.Below
import Derived.SizedLaws
namespace Go.Proofs.Ytnjjdpeglkiifaa.logFinds
open Go.ChangeShapes Go.WideShapes Go.ChangeAt Go.RowKit
open Go.ChangeMaps (open_string shut_string)
set_option linter.unusedVariables false
theorem own : ownKnob Try.prog.godebug = none := by kernel_rfl
theorem laidOut : laidOutB Try.prog = true := by kernel_rfl
set_option maxRecDepth 100000 in
theorem lifted (os : Os) (started : os.Started) (H : Type) (enc : TypeId × Value → H) :
    ReturnsInHanded {} Try.checked os 13 .any (Rows.logFindsSpec.pre6 enc Try.prog Try.f13 Rows.logFindsRow.domain false) (Rows.logFindsSpec.post enc Try.prog Try.f13 false true false false) := by
  refine returnsInHanded_of_change_sized (C := Try.checked) own started (by kernel_rfl) Try.func13
    (ChangeSpec.witness6 (enc := enc) (C := Try.checked) false ⟨#[], #[.slice none 0 0, .slice none 0 0, .agg #[.int .i64 0, .int .i64 0, .int .i64 0, .int .i64 0, .int .i64 0, .int .i64 0, .int .i64 0, .int .i64 0]], []⟩ 8 (by kernel_rfl) (by kernel_rfl) (by kernel_rfl) (by kernel_rfl)) ?_
  intro W base args ds gs before hval0 hW hcnd hsz0 _
  have hsz : (DataW.weightsEach Try.prog (Try.f13.params.toList ++ Rows.logFindsSpec.plain.varTypes Try.prog) (ds ++ gs)).all (· ≤ reachBytes) = true := hsz0
  have hval : ∀ (j : Nat) t v, Try.f13.params[j]? = some t → args[j]? = some v → Value.okWide Try.prog W .any base t v := hval0
  have hW' := hW
  obtain ⟨p, q, hA0, hV, rfl, hfz, hnd⟩ := hW
  have hA : DataW.TrodAll enc Try.prog W 0 (fun _ => true) true Try.f13.params.toList args.toList ds p := hA0
  rw [Try.params13] at hA hval hsz
  obtain ⟨v0, vs0, d0, ds0, p0, q0, hargs, rfl, rfl, h0, r0⟩ := trodAll_cons hA
  obtain ⟨v1, vs1, d1, ds1, p1, q1, rfl, rfl, rfl, h1, r1⟩ := trodAll_cons r0
  obtain ⟨v2, vs2, d2, ds2, p2, q2, rfl, rfl, rfl, h2, r2⟩ := trodAll_cons r1
  obtain ⟨rfl, rfl, rfl⟩ := trodAll_nil r2
  obtain rfl : args = #[v0, v1, v2] := by cases args; simp_all
  obtain ⟨rfl, rfl⟩ := trodVars_none hV
  have k0 := h0
  have lt0 : ∀ x ∈ p0, x.block < W.heap.size := by obtain ⟨m, hm⟩ := k0; exact DataW.trod_lt m _ _ _ hm
  obtain ⟨A0, c0, a0, e0, w0, x0, y0, z0⟩ : ∃ (A : Option Addr) (c : Nat) (xs : List MX.U8), v0 = .slice A xs.length c ∧ MX.Arr MX.U8.enc 1 W.heap A xs ∧ xs.length ≤ c ∧ c ≤ maxLen ∧ ∀ x ∈ xs, MX.U8.ok x := by
    obtain ⟨a, l, c, hc⟩ := okWide_slice Try.underlying23 (hval 0 23 v0 rfl rfl)
    obtain ⟨m, hm⟩ := h0
    rw [hc] at hm
    have hl := MX.leaves_of (P := Try.prog) 1 (MX.good_of m hm (MX.wts hsz (j := 0) rfl rfl)) (ls := [.slice 5]) (by kernel_rfl)
    obtain ⟨v, cs, he, hg, rfl⟩ := hl
    cases he
    rw [hc]
    exact MX.GoodS.arr (enc := MX.U8.enc) (ok := MX.U8.ok) (by kernel_rfl) (by decide) hg MX.u8_of
  subst e0
  have k1 := h1
  have lt1 : ∀ x ∈ p1, x.block < W.heap.size := by obtain ⟨m, hm⟩ := k1; exact DataW.trod_lt m _ _ _ hm
  obtain ⟨A1, c1, a1, e1, w1, x1, y1, z1⟩ : ∃ (A : Option Addr) (c : Nat) (xs : List MX.U8), v1 = .slice A xs.length c ∧ MX.Arr MX.U8.enc 1 W.heap A xs ∧ xs.length ≤ c ∧ c ≤ maxLen ∧ ∀ x ∈ xs, MX.U8.ok x := by
    obtain ⟨a, l, c, hc⟩ := okWide_slice Try.underlying23 (hval 1 23 v1 rfl rfl)
    obtain ⟨m, hm⟩ := h1
    rw [hc] at hm
    have hl := MX.leaves_of (P := Try.prog) 1 (MX.good_of m hm (MX.wts hsz (j := 1) rfl rfl)) (ls := [.slice 5]) (by kernel_rfl)
    obtain ⟨v, cs, he, hg, rfl⟩ := hl
    cases he
    rw [hc]
    exact MX.GoodS.arr (enc := MX.U8.enc) (ok := MX.U8.ok) (by kernel_rfl) (by decide) hg MX.u8_of
  subst e1
  have k2 := h2
  have lt2 : ∀ x ∈ p2, x.block < W.heap.size := by obtain ⟨m, hm⟩ := k2; exact DataW.trod_lt m _ _ _ hm
  obtain ⟨a2, w2, e2⟩ : ∃ x : MX.K8, MX.K8.ok x ∧ v2 = .agg (MX.K8.enc x).toArray := by
    obtain ⟨c, hc, _⟩ := MX.okWide_arr Try.underlying77 (hval 2 77 v2 rfl rfl)
    obtain ⟨m, hm⟩ := h2
    rw [hc] at hm
    obtain ⟨x, e, w⟩ := MX.k8_of (MX.good_of m hm (MX.wts hsz (j := 2) rfl rfl))
    exact ⟨x, w, by rw [hc, ← e]; simp [Value.cells]⟩
  subst e2
  clear hA0 hval0 hsz0 hsz
  refine (MX.toBelow (MX.LogFinds_ok A0 c0 a0 A1 c1 a1 a2 W.heap w0 x0 y0 z0 w1 x1 y1 z1 w2)).mono fun e W' ⟨he, bel⟩ => ?_
  subst he
  exact ⟨_, rfl, _, _, _, [], _, [], hW', trodAll_mk1 (shut_bool Try.underlying4 _), (trodAll_cons_mk (Below.trod laidOut (by kernel_rfl) (of_decide_eq_true (by kernel_rfl)) k0 bel lt0) (trodAll_cons_mk (Below.trod laidOut (by kernel_rfl) (of_decide_eq_true (by kernel_rfl)) k1 bel lt1) (trodAll_cons_mk (Below.trod laidOut (by kernel_rfl) (of_decide_eq_true (by kernel_rfl)) k2 bel lt2) trodAll_mk0))), rfl, bel.frame _, fun h => by cases h⟩
theorem over : Rows.logFindsRow.holds Try.pinned (OpenSpec.ofChange Rows.logFindsSpec) :=
  OpenClaim.holds_of_wide 13 Try.f13 rfl rfl rfl rfl rfl rfl rfl ⟨rfl, rfl, rfl, rfl, rfl⟩ rfl rfl rfl rfl rfl (by kernel_rfl) Try.func13 (by kernel_rfl)
    (of_decide_eq_true (by kernel_rfl)) (by unfold Func.isWrapper; first | (rw [if_pos (by decide +kernel)]; kernel_rfl) | (rw [if_neg (by decide +kernel)]; exact ⟨rfl, rfl⟩))
    (fun os started H enc _ => lifted os started H enc)
end Go.Proofs.Ytnjjdpeglkiifaa.logFinds
namespace Go.Proofs.Ytnjjdpeglkiifaa
/-- The row, for the claim. -/
theorem logFinds_holds : Rows.LogFindsSaid := logFinds.over
#print axioms logFinds_holds
end Go.Proofs.Ytnjjdpeglkiifaa
