/- A script of acts, as an argument; the reference's act; whether acts are few. -/
import Derived.Test.YtackopkhelochaaDs4
import Derived.Test.YtackopkhelochaaDk9
namespace Go.Proofs.Ytackopkhelochaa.MX
open Go Go.Proofs
set_option linter.unusedSimpArgs false
set_option linter.unusedVariables false

/-- An act with its bytes. -/
structure DA where
  x : DAct
  bs : List UInt8
def DA.enc (y : DA) : List Value := y.x.enc
structure DA.ok (h : Heap) (y : DA) : Prop where
  ok : y.x.ok
  n : y.x.dn = y.bs.length
  arr : Arr bEnc 1 h y.x.dA y.bs
  le : y.bs.length ≤ y.x.dc
  lt : y.bs.length < 9223372036854775808
  ks : ∀ k ∈ y.x.ks, I64 k
theorem da_of {h : Heap} {d : Nat} {cs : List Value} (hg : Good Try.prog h d 74 cs) : ∃ y : DA, cs = y.enc ∧ y.ok h := by
  have hl : leaves Try.prog 3 74 = some [.int .u8, .int .i64, .int .i64, .slice 5, .int .i64, .int .i64, .int .i64, .int .i64, .int .i64, .int .i64, .int .i64, .int .i64] := by kernel_rfl
  obtain ⟨k, _, rfl, w0, a, _, rfl, w1, b, _, rfl, w2, v, _, rfl, g, k0, _, rfl, v0, k1, _, rfl, v1, k2, _, rfl, v2, k3, _, rfl, v3, k4, _, rfl, v4, k5, _, rfl, v5, k6, _, rfl, v6, k7, _, rfl, v7, rfl⟩ := leaves_of 3 hg hl
  obtain ⟨A, c, xs, rfl, ha, h1, h2, _⟩ := GoodS.arr (enc := U8.enc) (sz := 1) (by kernel_rfl) (by decide) g u8_of
  have hm : maxLen = 9223372036854775807 := rfl
  refine ⟨⟨⟨k, a, b, A, xs.length, c, k0, k1, k2, k3, k4, k5, k6, k7⟩, xs.map U8.n⟩, rfl, ⟨wf_u8 w0, wf_i64 w1, wf_i64 w2⟩, by simp, arrU8 ha, by simpa using h1, by simp; omega, ?_⟩
  intro k hk
  simp only [DAct.ks, List.mem_cons, List.not_mem_nil, or_false] at hk
  rcases hk with rfl | rfl | rfl | rfl | rfl | rfl | rfl | rfl
  · exact wf_i64 v0
  · exact wf_i64 v1
  · exact wf_i64 v2
  · exact wf_i64 v3
  · exact wf_i64 v4
  · exact wf_i64 v5
  · exact wf_i64 v6
  · exact wf_i64 v7

theorem Few01_ok {A : Option Addr} {c : Nat} {xs : List DA} (m : Int) {h : Heap} (ha : Arr DA.enc 12 h A xs) (hl : xs.length < 9223372036854775808) :
    CallsH Try.prog 42 [.slice A xs.length c, .int .i64 m] h fun v h' => ∃ b, v = .bool b ∧ h' = h := by
  (refine enterK c_recouplaw01_Few (Nat.le_of_ble_eq_true rfl) fun K hK => ?_; (try simp (maxSteps := 1000000) (disch := first | omega | assumption | exact Nat.le_of_ble_eq_true rfl) only [go_sem, ↓mwp_block, simprocAttr, ir_recouplaw01_Few]))
  refine loop_intro (fun ρ h' => h' = h ∧ ρ 0 = .slice A xs.length c ∧ ρ 1 = .int .i64 m ∧ ρ 8 = .int .i64 xs.length ∧ ∃ (i : Nat) (n : Int), ρ 9 = .int .i64 i ∧ i ≤ xs.length ∧ ρ 5 = .int .i64 n) (fun ρ _ => xs.length - (iv (ρ 9)).toNat) ?_ ?_
  · (try simp (maxSteps := 1000000) (disch := first | omega | assumption | exact Nat.le_of_ble_eq_true rfl) only [go_sem, ↓mwp_block, simprocAttr])
    exact ⟨0, 0, rfl, by omega, rfl⟩
  · rintro ρ h' J hJ ⟨rfl, e0, e1, e8, i, n, e9, hi, e5⟩
    (try simp (maxSteps := 1000000) (disch := first | omega | assumption | exact Nat.le_of_ble_eq_true rfl) only [go_sem, ↓mwp_block, simprocAttr, e8, e9])
    refine cond_dec (fun hg => ?_) (fun hg => ?_)
    · have hi' : i < xs.length := by omega
      obtain ⟨b, off, rfl, hr⟩ := ha.at hi'
      generalize xs[i] = y at hr
      (try simp (maxSteps := 1000000) (disch := first | omega | assumption | exact Nat.le_of_ble_eq_true rfl) only [go_sem, ↓mwp_block, simprocAttr, e0, e1, e5, e9, rd1_part (k := 3) hr, DA.enc, DAct.enc])
      by_cases g1 : m ≤ (i : Int)
      · (try simp (maxSteps := 1000000) (disch := first | omega | assumption | exact Nat.le_of_ble_eq_true rfl) only [go_sem, ↓mwp_block, simprocAttr])
        exact hK _ _ ⟨_, rfl, rfl⟩
      by_cases g2 : 2097152 < IntKind.i64.wrap (n + (y.x.dn : Int))
      · (try simp (maxSteps := 1000000) (disch := first | omega | assumption | exact Nat.le_of_ble_eq_true rfl) only [go_sem, ↓mwp_block, simprocAttr])
        exact hK _ _ ⟨_, rfl, rfl⟩
      · (try simp (maxSteps := 1000000) (disch := first | omega | assumption | exact Nat.le_of_ble_eq_true rfl) only [go_sem, ↓mwp_block, simprocAttr, e9])
        refine hJ _ _ ?_ ?_
        · (try simp (maxSteps := 1000000) (disch := first | omega | assumption | exact Nat.le_of_ble_eq_true rfl) only [go_sem, ↓mwp_block, simprocAttr, e0, e1, e8, e9])
          exact ⟨i + 1, _, rfl, by omega, rfl⟩
        · (try simp (maxSteps := 1000000) (disch := first | omega | assumption | exact Nat.le_of_ble_eq_true rfl) only [go_sem, ↓mwp_block, simprocAttr, e9])
          omega
    · (try simp (maxSteps := 1000000) (disch := first | omega | assumption | exact Nat.le_of_ble_eq_true rfl) only [go_sem, ↓mwp_block, simprocAttr])
      exact hK _ _ ⟨_, rfl, rfl⟩

theorem RAct_ok (x : DAct) (hx : 0 ≤ x.kind ∧ x.kind ≤ 5) {h0 h : Heap} {l : List HP} {w : Nat} {D : Dk} {bs : List UInt8} (S : St h0 h (refA w D :: l)) (ok : D.ok) (hdn : x.dn = bs.length) (ha : ∀ h', St h0 h' l → Arr bEnc 1 h' x.dA bs) (hc : bs.length ≤ x.dc) (hb : bs.length < 9223372036854775808) :
    CallsH Try.prog 46 [.pointer (some ⟨w, 0, none⟩), .int .i64 x.kind, .int .i64 x.a, .int .i64 x.b, .slice x.dA x.dn x.dc] h fun v h' => v = .int .i64 (actD D x bs).2 ∧ St h0 h' (refA w (actD D x bs).1 :: l) := by
  rw [hdn]
  by_cases e0 : x.kind = 0
  · rw [e0]
    refine (RAct0_ok x.a x.b S ok ha hc hb).mono fun v h' hp => ?_
    simpa only [actD, if_pos e0] using hp
  by_cases e1 : x.kind = 1
  · rw [e1]
    refine (RAct1_ok x.a x.b _ S ok).mono fun v h' hp => ?_
    simpa only [actD, if_neg e0, if_pos e1] using hp
  by_cases e2 : x.kind = 2
  · rw [e2]
    refine (RAct2_ok x.a x.b _ S ok).mono fun v h' hp => ?_
    simpa only [actD, if_neg e0, if_neg e1, if_pos e2] using hp
  by_cases e3 : x.kind = 3
  · rw [e3]
    refine (RAct3_ok x.a x.b _ S ok).mono fun v h' hp => ?_
    simpa only [actD, if_neg e0, if_neg e1, if_neg e2, if_pos e3] using hp
  by_cases e4 : x.kind = 4
  · rw [e4]
    refine (RAct4_ok x.a x.b _ S ok).mono fun v h' hp => ?_
    simpa only [actD, if_neg e0, if_neg e1, if_neg e2, if_neg e3, if_pos e4] using hp
  have e5 : x.kind = 5 := by omega
  rw [e5]
  refine (RAct5_ok x.a x.b _ S).mono fun v h' hp => ?_
  simpa only [actD, if_neg e0, if_neg e1, if_neg e2, if_neg e3, if_neg e4, if_pos e5] using hp
end Go.Proofs.Ytackopkhelochaa.MX
