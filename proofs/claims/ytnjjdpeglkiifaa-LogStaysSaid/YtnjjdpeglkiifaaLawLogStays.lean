/- The row of the law LogStays, out of its walk. -/
import Derived.Test.YtnjjdpeglkiifaaRows
import Derived.Test.YtnjjdpeglkiifaaK25
import Derived.WalkKit
import Derived.ProofKit
import Derived.OpenShut
import Derived.ShutString
import Derived.ChangeOld
import Derived.Below
import Derived.SizedLaws
namespace Go.Proofs.Ytnjjdpeglkiifaa.logStays
open Go.ChangeShapes Go.WideShapes Go.ChangeAt Go.RowKit
open Go.ChangeMaps (open_string shut_string)
set_option linter.unusedVariables false
theorem own : ownKnob Try.prog.godebug = none := by kernel_rfl
theorem laidOut : laidOutB Try.prog = true := by kernel_rfl
set_option maxRecDepth 100000 in
theorem lifted (os : Os) (started : os.Started) (H : Type) (enc : TypeId × Value → H) :
    ReturnsInHanded {} Try.checked os 14 .any (Rows.logStaysSpec.pre6 enc Try.prog Try.f14 Rows.logStaysRow.domain false) (Rows.logStaysSpec.post enc Try.prog Try.f14 false true false false) := by
  refine returnsInHanded_of_change_sized (C := Try.checked) own started (by kernel_rfl) Try.func14
    (ChangeSpec.witness6 (enc := enc) (C := Try.checked) false ⟨#[], #[.int .i64 0, .slice none 0 0, .slice none 0 0], []⟩ 8 (by kernel_rfl) (by kernel_rfl) (by kernel_rfl) (by kernel_rfl)) ?_
  intro W base args ds gs before hval0 hW hcnd hsz0 _
  have hsz : (DataW.weightsEach Try.prog (Try.f14.params.toList ++ Rows.logStaysSpec.plain.varTypes Try.prog) (ds ++ gs)).all (· ≤ reachBytes) = true := hsz0
  have hval : ∀ (j : Nat) t v, Try.f14.params[j]? = some t → args[j]? = some v → Value.okWide Try.prog W .any base t v := hval0
  have hW' := hW
  obtain ⟨p, q, hA0, hV, rfl, hfz, hnd⟩ := hW
  have hA : DataW.TrodAll enc Try.prog W 0 (fun _ => true) true Try.f14.params.toList args.toList ds p := hA0
  rw [Try.params14] at hA hval hsz
  obtain ⟨v0, vs0, d0, ds0, p0, q0, hargs, rfl, rfl, h0, r0⟩ := trodAll_cons hA
  obtain ⟨v1, vs1, d1, ds1, p1, q1, rfl, rfl, rfl, h1, r1⟩ := trodAll_cons r0
  obtain ⟨v2, vs2, d2, ds2, p2, q2, rfl, rfl, rfl, h2, r2⟩ := trodAll_cons r1
  obtain ⟨rfl, rfl, rfl⟩ := trodAll_nil r2
  obtain rfl : args = #[v0, v1, v2] := by cases args; simp_all
  obtain ⟨rfl, rfl⟩ := trodVars_none hV
  obtain ⟨a0, rfl, rfl, rfl, w0⟩ := open_int Try.underlying3 (hval 0 3 v0 rfl rfl) h0
  have k1 := h1
  have lt1 : ∀ x ∈ p1, x.block < W.heap.size := by obtain ⟨m, hm⟩ := k1; exact DataW.trod_lt m _ _ _ hm
  obtain ⟨A1, c1, a1, e1, w1, x1, y1, z1⟩ : ∃ (A : Option Addr) (c : Nat) (xs : List MX.U8), v1 = .slice A xs.length c ∧ MX.Arr MX.U8.enc 1 W.heap A xs ∧ xs.length ≤ c ∧ c ≤ maxLen ∧ ∀ x ∈ xs, MX.U8.ok x := by
    obtain ⟨a, l, c, hc⟩ := okWide_slice Try.underlying23 (hval 1 23 v1 rfl rfl)
    obtain ⟨m, hm⟩ := h1
    rw [hc] at hm
    have hl := MX.leaves_of (P := Try.prog) 1 (MX.good_of m hm (MX.wts hsz (j := 1) rfl rfl)) (ls := [.slice 5]) (by kernel_rfl)
    obtain ⟨v, cs, he, hg, rfl⟩ := hl
    cases he
    rw [hc]
    exact MX.GoodS.arr (enc := MX.U8.enc) (ok := MX.U8.ok) (by kernel_rfl) (by decide) hg MX.u8_of
  subst e1
  have k2 := h2
  have lt2 : ∀ x ∈ p2, x.block < W.heap.size := by obtain ⟨m, hm⟩ := k2; exact DataW.trod_lt m _ _ _ hm
  obtain ⟨A2, c2, a2, e2, w2, x2, y2, z2⟩ : ∃ (A : Option Addr) (c : Nat) (xs : List MX.Op4), v2 = .slice A xs.length c ∧ MX.Arr MX.Op4.enc 11 W.heap A xs ∧ xs.length ≤ c ∧ c ≤ maxLen ∧ ∀ x ∈ xs, MX.Op4.ok W.heap x := by
    obtain ⟨a, l, c, hc⟩ := okWide_slice Try.underlying88 (hval 2 88 v2 rfl rfl)
    obtain ⟨m, hm⟩ := h2
    rw [hc] at hm
    have hl := MX.leaves_of (P := Try.prog) 1 (MX.good_of m hm (MX.wts hsz (j := 2) rfl rfl)) (ls := [.slice 91]) (by kernel_rfl)
    obtain ⟨v, cs, he, hg, rfl⟩ := hl
    cases he
    rw [hc]
    exact MX.GoodS.arr (enc := MX.Op4.enc) (ok := MX.Op4.ok W.heap) (by kernel_rfl) (by decide) hg MX.op4_of
  subst e2
  clear hA0 hval0 hsz0 hsz
  refine (MX.toBelow (MX.LogStays_ok a0 A1 c1 a1 A2 c2 a2 W.heap (MX.wf_i64 w0) w1 x1 y1 z1 w2 x2 y2 z2)).mono fun e W' ⟨he, bel⟩ => ?_
  subst he
  exact ⟨_, rfl, _, _, _, [], _, [], hW', trodAll_mk1 (shut_bool Try.underlying4 _), (trodAll_cons_mk (shut_int Try.underlying3 w0) (trodAll_cons_mk (Below.trod laidOut (by kernel_rfl) (of_decide_eq_true (by kernel_rfl)) k1 bel lt1) (trodAll_cons_mk (Below.trod laidOut (by kernel_rfl) (of_decide_eq_true (by kernel_rfl)) k2 bel lt2) trodAll_mk0))), rfl, bel.frame _, fun h => by cases h⟩
theorem over : Rows.logStaysRow.holds Try.pinned (OpenSpec.ofChange Rows.logStaysSpec) :=
  OpenClaim.holds_of_wide 14 Try.f14 rfl rfl rfl rfl rfl rfl rfl ⟨rfl, rfl, rfl, rfl, rfl⟩ rfl rfl rfl rfl rfl (by kernel_rfl) Try.func14 (by kernel_rfl)
    (of_decide_eq_true (by kernel_rfl)) (by unfold Func.isWrapper; first | (rw [if_pos (by decide +kernel)]; kernel_rfl) | (rw [if_neg (by decide +kernel)]; exact ⟨rfl, rfl⟩))
    (fun os started H enc _ => lifted os started H enc)
end Go.Proofs.Ytnjjdpeglkiifaa.logStays
namespace Go.Proofs.Ytnjjdpeglkiifaa
/-- The row, for the claim. -/
theorem logStays_holds : Rows.LogStaysSaid := logStays.over
#print axioms logStays_holds
end Go.Proofs.Ytnjjdpeglkiifaa
