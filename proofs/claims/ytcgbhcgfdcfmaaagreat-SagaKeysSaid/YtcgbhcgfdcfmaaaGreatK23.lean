import Derived.Test.YtcgbhcgfdcfmaaaGreatK17
import Derived.Test.YtcgbhcgfdcfmaaaGreatK12
import Derived.Test.YtcgbhcgfdcfmaaaGreatK22
import Derived.Test.YtcgbhcgfdcfmaaaGreatK18
import Derived.Test.YtcgbhcgfdcfmaaaGreatK20
import Derived.Test.YtcgbhcgfdcfmaaaGreatK13
namespace Go.Proofs.YtcgbhcgfdcfmaaaGreat.MX
open Go Go.Proofs
set_option linter.unusedSimpArgs false
set_option linter.unusedVariables false
section
set_option maxHeartbeats 4000000
def partV (a n of : Int) : Int × Int := if a < 0 ∨ 1125899906842624 < a then (0, 9) else if of < 1 ∨ n < 0 ∨ of < n then (0, 1) else (a * n / of, 0)
theorem CPart_ok (a n of : Int) (ha : I64 a) (hn : I64 n) (ho : I64 of) (h : Heap) : CallsH Tryz.prog 164 [.int .i64 a, .int .i64 n, .int .i64 of] h fun v h' => v = .tuple #[.int .i64 (partV a n of).1, .int .i64 (partV a n of).2] ∧ h' = h := by
 obtain ⟨ha1, ha2⟩ := ha
 obtain ⟨hn1, hn2⟩ := hn
 obtain ⟨ho1, ho2⟩ := ho
 have hdef : partV a n of = if a < 0 ∨ 1125899906842624 < a then (0, 9) else if of < 1 ∨ n < 0 ∨ of < n then (0, 1) else (a * n / of, 0) := rfl
 by_cases c1 : a < 0
 ·rw [if_pos (.inl c1)] at hdef
  rw [hdef]
  refine EN i164.eq_1 fun K hK => ?_
  refine Wb c1 ?_
  exact hK _ _ ⟨rfl, rfl⟩
 by_cases c2 : 1125899906842624 < a
 ·rw [if_pos (.inr c2)] at hdef
  rw [hdef]
  refine EN i164.eq_1 fun K hK => ?_
  refine Wc c1 c2 ?_
  exact hK _ _ ⟨rfl, rfl⟩
 rw [if_neg (fun h => h.elim c1 c2)] at hdef
 by_cases c3 : of < 1
 ·rw [if_pos (.inl c3)] at hdef
  rw [hdef]
  refine EN i164.eq_1 fun K hK => ?_
  refine Wd c1 c2 c3 ?_
  exact hK _ _ ⟨rfl, rfl⟩
 by_cases c4 : n < 0
 ·rw [if_pos (.inr (.inl c4))] at hdef
  rw [hdef]
  refine EN i164.eq_1 fun K hK => ?_
  refine We c1 c2 c3 c4 ?_
  exact hK _ _ ⟨rfl, rfl⟩
 by_cases c5 : of < n
 ·rw [if_pos (.inr (.inr c5))] at hdef
  rw [hdef]
  refine EN i164.eq_1 fun K hK => ?_
  refine Wf c1 c2 c3 c4 c5 ?_
  exact hK _ _ ⟨rfl, rfl⟩
 rw [if_neg (fun h => h.elim c3 (fun h => h.elim c4 c5))] at hdef
 rw [hdef]
 obtain ⟨x, rfl⟩ := l_u (show 0 ≤ a by omega)
 obtain ⟨y, rfl⟩ := l_u (show 0 ≤ n by omega)
 obtain ⟨z, rfl⟩ := l_u (show 0 ≤ of by omega)
 have hxy : x * y ≤ x * z := Nat.mul_le_mul_left _ (by omega)
 have hq : x * y / z ≤ x := Nat.div_le_of_le_mul (by rw [Nat.mul_comm z x]; exact hxy)
 have hhi : x * y / 18446744073709551616 < z := by
  rw [Nat.div_lt_iff_lt_mul (by decide)]
  have : x * z ≤ 1125899906842624 * z := Nat.mul_le_mul_right _ (by omega)
  omega
 have hdm : x * y / 18446744073709551616 * 18446744073709551616 + x * y % 18446744073709551616 = x * y := by omega
 refine EN i164.eq_1 fun K hK => ?_
 refine Wf c1 c2 c3 c4 c5 ?_
 refine cI (Mul64_ok x y (by omega) (by omega) _) ?_
 rintro _ _ ⟨rfl, rfl⟩
 refine Wa ?_
 refine cI (Div64_ok _ _ z hhi (by omega) (Nat.mod_lt _ (by decide)) _) ?_
 rintro _ _ ⟨rfl, rfl⟩
 rw [hdm]
 refine Wa ?_
 refine hK _ _ ⟨?_, rfl⟩
 have e : (x : Int) * y / z = ((x * y / z : Nat) : Int) := by rw [Int.natCast_ediv, Int.natCast_mul]
 have hqx : ((x * y / z : Nat) : Int) ≤ x := Int.ofNat_le.2 hq
 have hq0 : (0 : Int) ≤ ((x * y / z : Nat) : Int) := Int.natCast_nonneg _
 rw [e]
 generalize ((x * y / z : Nat) : Int) = w at *
 rw [wrap_i64 (by omega) (by omega)]
theorem Points_ok (a k : Int) (ha : I64 a) (hk : I64 k) (h : Heap) : CallsH Tryz.prog 135 [.int .i64 a, .int .i64 k] h fun v h' => v = .tuple #[.int .i64 (partV a k 10000).1, .int .i64 (partV a k 10000).2] ∧ h' = h := by
 obtain ⟨hk1, hk2⟩ := id hk
 refine EN i135.eq_1 fun K hK => Wa ?_
 refine cI (CPart_ok a k 10000 ha hk ⟨by decide, by decide⟩ _) ?_
 rintro _ _ ⟨rfl, rfl⟩
 refine Wa ?_
 exact hK _ _ ⟨rfl, rfl⟩
end
section
set_option maxHeartbeats 4000000
def isR (n : Int) : Prop := 0 ≤ n ∧ n < 4
def Pol.feeR (p : Pol) (r : Int) : Int := if r = 0 then p.f0 else if r = 1 then p.f1 else if r = 2 then p.f2 else p.f3
def Pol.gsh (p : Pol) (g : Int) : Int := if g = 0 then p.s0 else if g = 1 then p.s1 else if g = 2 then p.s2 else p.s3
def Pol.gto (p : Pol) (g : Int) : Int := if g = 0 then p.t0 else if g = 1 then p.t1 else if g = 2 then p.t2 else p.t3
def wrt (p : Pol) (sh r g : Int) : Int := sh * p.gsh g / 10000 - sh * p.gsh g / 10000 * p.feeR r / 10000
theorem isR4 {n : Int} (h : isR n) : n = 0 ∨ n = 1 ∨ n = 2 ∨ n = 3 := by obtain ⟨h1, h2⟩ := h; omega
theorem fee_pts {p : Pol} (hp : p.right) (r : Int) : okPts (p.feeR r) := by
 obtain ⟨⟨h0, h1, h2, h3⟩, _⟩ := hp
 unfold Pol.feeR
 (repeat' split) <;> assumption
theorem gsh_pts {p : Pol} (hp : p.right) (g : Int) : okPts (p.gsh g) := by
 obtain ⟨_, ⟨⟨h0, _⟩, ⟨h1, _⟩, ⟨h2, _⟩, ⟨h3, _⟩⟩, _⟩ := hp
 unfold Pol.gsh
 (repeat' split) <;> assumption
theorem part_le {a n : Int} (ha : 0 ≤ a) (hn : okPts n) : 0 ≤ a * n / 10000 ∧ a * n / 10000 ≤ a := by
 obtain ⟨h1, h2⟩ := hn
 have e1 : 0 ≤ a * n := Int.mul_nonneg ha h1
 have e2 : a * n ≤ a * 10000 := Int.mul_le_mul_of_nonneg_left h2 ha
 omega
theorem partV_in {a n : Int} (ha : 0 ≤ a) (ha2 : a ≤ 1125899906842624) (hn : okPts n) : partV a n 10000 = (a * n / 10000, 0) := by
 obtain ⟨h1, h2⟩ := hn
 rw [partV, if_neg (by omega), if_neg (by omega)]
theorem rright_ok (p : Pol) (h : Heap) : CallsH Tryz.prog 133 [.agg p.enc.toArray] h fun v h' => v = .bool (dcd p.right) ∧ Fr h h' [] := by
 have S := St.nil h
 refine EN i133.eq_1 fun K hK => Wa ?_
 (revert S; (try clear F); refine AL fun b h S F => ?_)
 refine Wc F @Pol.enc.eq_1 ?_
 (revert S; (try clear F); refine AL fun g h S F => ?_)
 have S := S.cellOwn (enc := Pol.enc) (sz := 16) (ys := [p]) Pol.enc_len rfl (by simp)
 clear F
 refine Wa ?_
 refine cI (Right_ok (xs := [p]) (S.arr Pol.enc_len) rfl (by simp)) ?_
 rintro _ h' ⟨rfl, hf⟩
 refine Wa ?_
 refine hK _ _ ⟨?_, (S.frame hf).fr⟩
 by_cases hr : p.right
 ·rw [dT hr, dT ⟨by simp, by simpa using hr⟩]
 ·rw [dF hr, dF fun h => hr (h.2 p (by simp))]
theorem ris_ok (n : Int) (h : Heap) : CallsH Tryz.prog 134 [.int .i64 n] h fun v h' => v = .bool (dcd (isR n)) ∧ h' = h := by
 by_cases h1 : 0 ≤ n
 ·by_cases h2 : n < 4
  ·refine EN i134.eq_1 fun K hK => ?_
   refine Wc h1 h2 ?_
   exact hK _ _ ⟨by rw [dT ⟨h1, h2⟩], rfl⟩
  ·refine EN i134.eq_1 fun K hK => ?_
   refine Wc h1 h2 ?_
   exact hK _ _ ⟨by rw [dF fun h => h2 h.2], rfl⟩
 ·refine EN i134.eq_1 fun K hK => ?_
  refine Wb h1 ?_
  exact hK _ _ ⟨by rw [dF fun h => h1 h.1], rfl⟩
theorem Fee_ok (p : Pol) (sum r : Int) (hp : p.right) (hr : isR r) (h0 : 0 ≤ sum) (h1 : sum ≤ 1125899906842624) (h : Heap) : CallsH Tryz.prog 136 [.agg p.enc.toArray, .int .i64 sum, .int .i64 r] h fun v h' => v = .tuple #[.int .i64 (sum * p.feeR r / 10000), .int .i64 0] ∧ Fr h h' [] := by
 have hf := fee_pts hp r
 have hv := partV_in h0 h1 hf
 have S := St.nil h
 refine EN i136.eq_1 fun K hK => Wa ?_
 (revert S; (try clear F); refine AL fun b h S F => ?_)
 refine Wc F @Pol.enc.eq_1 ?_
 refine cI (rright_ok p _) ?_
 rintro _ h ⟨rfl, f1⟩
 have S := S.frame f1
 rw [dT hp]
 refine Wa ?_
 refine cI (ris_ok r _) ?_
 rintro _ _ ⟨rfl, rfl⟩
 rw [dT hr]
 ((try clear F); have F := S.fx)
 rcases isR4 hr with rfl | rfl | rfl | rfl <;>
 ·refine Wc F @Pol.enc.eq_1 ?_
  refine cI (Points_ok _ _ ⟨by omega, by omega⟩ ⟨?_, ?_⟩ _) ?_
  ·have := hf.1; simp only [Pol.feeR] at this; simp at this; omega
  ·have := hf.2; simp only [Pol.feeR] at this; simp at this; omega
  rintro _ _ ⟨rfl, rfl⟩
  simp only [Pol.feeR] at hv ⊢
  simp at hv ⊢
  rw [hv]
  refine Wa ?_
  exact hK _ _ ⟨rfl, S.fr⟩
theorem Worth_ok (p : Pol) (sh r g : Int) (hp : p.right) (hr : isR r) (hg : isR g) (h0 : 0 ≤ sh) (h1 : sh ≤ 1125899906842624) (h : Heap) : CallsH Tryz.prog 89 [.agg p.enc.toArray, .int .i64 sh, .int .i64 r, .int .i64 g] h fun v h' => v = .tuple #[.int .i64 (wrt p sh r g), .int .i64 0] ∧ Fr h h' [] := by
 have hf := gsh_pts hp g
 have hv := partV_in h0 h1 hf
 have hl := part_le h0 hf
 have hl2 := part_le hl.1 (fee_pts hp r)
 have S := St.nil h
 refine EN i89.eq_1 fun K hK => Wa ?_
 (revert S; (try clear F); refine AL fun b h S F => ?_)
 refine Wc F @Pol.enc.eq_1 ?_
 refine cI (rright_ok p _) ?_
 rintro _ h ⟨rfl, f1⟩
 have S := S.frame f1
 rw [dT hp]
 refine Wa ?_
 refine cI (ris_ok r _) ?_
 rintro _ _ ⟨rfl, rfl⟩
 rw [dT hr]
 refine Wa ?_
 refine cI (ris_ok g _) ?_
 rintro _ _ ⟨rfl, rfl⟩
 rw [dT hg]
 have hgo : ∀ (x : Int) (h : Heap), x = p.gsh g → CallsH Tryz.prog 135 [.int .i64 sh, .int .i64 x] h fun v h' => v = .tuple #[.int .i64 (sh * p.gsh g / 10000), .int .i64 0] ∧ h' = h := fun x h e => by
  subst e
  have := Points_ok sh (p.gsh g) ⟨by omega, by omega⟩ ⟨by have := hf.1; omega, by have := hf.2; omega⟩ h
  rwa [hv] at this
 ((try clear F); have F := S.fx)
 have fin : ∀ (x : Int), x = p.gsh g → callT Tryz.prog 135 [.int .i64 sh, .int .i64 x] h (fun v h' => True) ⟨⟩ ⟨⟩ → True := fun _ _ _ => trivial
 clear fin
 rcases isR4 hg with rfl | rfl | rfl | rfl <;>
 ·refine Wc F @Pol.enc.eq_1 ?_
  refine cI (hgo _ _ (by simp [Pol.gsh])) ?_
  rintro _ _ ⟨rfl, rfl⟩
  refine Wc F @Pol.enc.eq_1 ?_
  refine cI (Fee_ok p _ r hp hr hl.1 (by omega) _) ?_
  rintro _ h ⟨rfl, f2⟩
  refine Wa ?_
  exact hK _ _ ⟨rfl, (S.frame f2).fr⟩
end
section
set_option maxHeartbeats 8000000
theorem rsums_ok (x : RetV) (h : Heap) : CallsH Tryz.prog 163 [.agg x.enc.toArray] h fun v h' => v = .bool (dcd (okMon x.r.worth ∧ okMon x.r.paid ∧ okMon x.r.credd ∧ okMon x.r.given)) ∧ Fr h h' [] := by
 have S := St.nil h
 have z4 : ∀ z : Value, zerosL [z] 4 = [z, z, z, z] := fun _ => rfl
 refine EN i163.eq_1 fun K hK => Wa ?_
 (revert S; (try clear F); refine AL fun b h S F => ?_)
 refine Wd F @RetV.enc.eq_1 z4 ?_
 (revert S; (try clear F); refine AL fun g h S F => ?_)
 refine Wb F ?_
 by_cases a1 : x.r.worth < 0
 ·(refine loop_unroll 5 ?_); (refine Wc F a1 ?_); exact hK _ _ ⟨by rw [dF fun h => by have := h.1.1; omega], S.fr⟩
 by_cases a2 : 1125899906842624 < x.r.worth
 ·(refine loop_unroll 5 ?_); (refine Wd F a1 a2 ?_); exact hK _ _ ⟨by rw [dF fun h => by have := h.1.2; omega], S.fr⟩
 by_cases b1 : x.r.paid < 0
 ·(refine loop_unroll 5 ?_); (refine We F a1 a2 b1 ?_); exact hK _ _ ⟨by rw [dF fun h => by have := h.2.1.1; omega], S.fr⟩
 by_cases b2 : 1125899906842624 < x.r.paid
 ·(refine loop_unroll 5 ?_); (refine Wf F a1 a2 b1 b2 ?_); exact hK _ _ ⟨by rw [dF fun h => by have := h.2.1.2; omega], S.fr⟩
 by_cases c1 : x.r.credd < 0
 ·(refine loop_unroll 5 ?_); (refine Wg F a1 a2 b1 b2 c1 ?_); exact hK _ _ ⟨by rw [dF fun h => by have := h.2.2.1.1; omega], S.fr⟩
 by_cases c2 : 1125899906842624 < x.r.credd
 ·(refine loop_unroll 5 ?_); (refine Wh F a1 a2 b1 b2 c1 c2 ?_); exact hK _ _ ⟨by rw [dF fun h => by have := h.2.2.1.2; omega], S.fr⟩
 by_cases d1 : x.r.given < 0
 ·(refine loop_unroll 5 ?_); (refine Wi F a1 a2 b1 b2 c1 c2 d1 ?_); exact hK _ _ ⟨by rw [dF fun h => by have := h.2.2.2.1; omega], S.fr⟩
 by_cases d2 : 1125899906842624 < x.r.given
 ·(refine loop_unroll 5 ?_); (refine Wi F a1 a2 b1 b2 c1 c2 (Pc d1 d2) ?_); exact hK _ _ ⟨by rw [dF fun h => by have := h.2.2.2.2; omega], S.fr⟩
 (refine loop_unroll 5 ?_); (refine Wi F a1 a2 b1 b2 c1 c2 (Pc d1 d2) ?_)
 exact hK _ _ ⟨by rw [dT ⟨⟨by omega, by omega⟩, ⟨by omega, by omega⟩, ⟨by omega, by omega⟩, by omega, by omega⟩], S.fr⟩
end
section
set_option maxHeartbeats 8000000
theorem runits_ok {h0 : Heap} (x : RetV) (ha : Arr zEnc 1 h0 x.A x.r.us) (hb : Arr zEnc 1 h0 x.B x.r.gs) (l1 : x.r.us.length < 1000000) (l2 : x.r.gs.length < 1000000) :
  CallsH Tryz.prog 162 [.agg x.enc.toArray] h0 fun v h' => v = .bool (dcd (okUnits x.r.us x.r.gs)) ∧ Fr h0 h' [] := by
 have S := St.nil h0
 have ha' : ∀ {h' : Heap} {l : List HP}, St h0 h' l → Arr zEnc 1 h' x.A x.r.us := fun S => ha.fr S.fr (by simp)
 have hb' : ∀ {h' : Heap} {l : List HP}, St h0 h' l → Arr zEnc 1 h' x.B x.r.gs := fun S => hb.fr S.fr (by simp)
 refine EN i162.eq_1 fun K hK => Wa ?_
 (revert S; (try clear F); refine AL fun b h S F => ?_)
 refine Wc F @RetV.enc.eq_1 ?_
 refine cI (between_ok _ _ _ _) ?_
 rintro _ _ ⟨rfl, rfl⟩
 by_cases n1 : btw x.r.us.length 1 200
 case neg =>
  rw [dF n1]
  refine Wa ?_
  exact hK _ _ ⟨by rw [dF fun h => n1 h.1], S.fr⟩
 rw [dT n1]
 by_cases n2 : (x.r.gs.length : Int) = x.r.us.length
 case neg =>
  refine Wd F @RetV.enc.eq_1 n2 ?_
  exact hK _ _ ⟨by rw [dF fun h => by have := h.2.1; omega], S.fr⟩
 refine Wd F @RetV.enc.eq_1 n2 ?_
 refine lI (fun ρ h' => ρ 1 = .pointer (some ⟨b, 0, none⟩) ∧ ρ 20 = .slice x.A x.r.us.length x.c ∧ ρ 21 = .int .i64 x.r.us.length ∧ ∃ i : Nat, ρ 22 = .int .i64 i ∧ i ≤ x.r.us.length ∧ (∀ k, k < i → unitOk x.r.us x.r.gs k) ∧ St h0 h' [cellA b x.enc 59]) (fun ρ _ => x.r.us.length - (iv (ρ 22)).toNat) ?_ ?_
 ·refine Wa ?_
  exact ⟨0, rfl, by omega, fun k hk => absurd hk (by omega), S⟩
 clear S F
 rintro ρ h J hJ ⟨e1, e20, e21, i, e22, hi, hok, S⟩
 refine Wc e21 e22 ?_
 refine cD (fun hlt => ?_) (fun hlt => ?_)
 ·have hil : i < x.r.us.length := by omega
  obtain ⟨b1, o1, hA1, q1⟩ := (ha' S).at hil
  obtain ⟨b2, o2, hA2, q2⟩ := (hb' S).at (i := i) (by omega)
  have q1 := rP0 q1 (by omega)
  have q2 := rP0 q2 (by omega)
  simp only [zEnc, l_o, Nat.mul_one] at q1 q2
  rw [← getD_at] at q1 q2
  have hbad : ¬ unitOk x.r.us x.r.gs i → ¬ okUnits x.r.us x.r.gs := fun hn h => hn (h.2.2 i hil)
  have hgo := fun hx => unitOk_snoc hok (i := i) hx
  have hU : unitOk x.r.us x.r.gs i ↔ (btw (x.r.us.getD i 0) 0 199 ∧ (0 < i → x.r.us.getD (i - 1) 0 < x.r.us.getD i 0) ∧ btw (x.r.gs.getD i 0) (-1) 4) := Iff.rfl
  ((try clear F); have F := S.fx)
  refine Wf e20 e22 hA1 q1 @Nat.mul_one ?_
  refine cI (between_ok _ _ _ _) ?_
  rintro _ _ ⟨rfl, rfl⟩
  by_cases c1 : btw (x.r.us.getD i 0) 0 199
  case neg =>
   rw [dF c1]
   refine Wa ?_
   exact hK _ _ ⟨by rw [dF (hbad fun h => c1 (hU.1 h).1)], S.fr⟩
  rw [dT c1]
  by_cases c2 : 0 < i
  ·obtain ⟨j, rfl⟩ : ∃ j, i = j + 1 := ⟨i - 1, by omega⟩
   obtain ⟨b3, o3, hA3, q3⟩ := (ha' S).at (i := j) (by omega)
   rw [hA1] at hA3
   cases hA3
   have q3 := rP0 q3 (by omega)
   simp only [zEnc, l_o, Nat.mul_one] at q3
   rw [← getD_at] at q3
   have hj1 : ((j + 1 : Nat) : Int) - 1 = (j : Int) := by omega
   have hj0 : (0 : Int) < ((j + 1 : Nat) : Int) := by omega
   rw [Nat.add_sub_cancel] at hU
   by_cases c3 : x.r.us.getD (j + 1) 0 ≤ x.r.us.getD j 0
   ·refine Wi e1 F @RetV.enc.eq_1 hA1 hj0 hj1 q3 (Pc c3 @Nat.mul_one) ?_
    exact hK _ _ ⟨by rw [dF (hbad fun h => by have := (hU.1 h).2.1 (by omega); omega)], S.fr⟩
   refine Wi e1 F @RetV.enc.eq_1 hA1 hA2 hj0 hj1 (Pe q2 q3 c3 @Nat.mul_one) ?_
   refine cI (between_ok _ _ _ _) ?_
   rintro _ _ ⟨rfl, rfl⟩
   by_cases c4 : btw (x.r.gs.getD (j + 1) 0) (-1) 4
   case neg =>
    rw [dF c4]
    refine Wa ?_
    exact hK _ _ ⟨by rw [dF (hbad fun h => c4 (hU.1 h).2.2)], S.fr⟩
   rw [dT c4]
   refine Wb e22 ?_
   refine hJ _ _ ?_ ?_
   ·refine We e1 e20 e21 hA1 ?_
    exact ⟨j + 1 + 1, rfl, by omega, hgo (hU.2 ⟨c1, fun _ => by omega, c4⟩), S⟩
   ·refine Wb e22 ?_
    omega
  ·obtain rfl : i = 0 := by omega
   rw [Nat.add_zero] at q1 q2
   refine Wg e1 F @RetV.enc.eq_1 hA2 q2 @Nat.mul_one ?_
   refine cI (between_ok _ _ _ _) ?_
   rintro _ _ ⟨rfl, rfl⟩
   by_cases c4 : btw (x.r.gs.getD 0 0) (-1) 4
   case neg =>
    rw [dF c4]
    refine Wa ?_
    exact hK _ _ ⟨by rw [dF (hbad fun h => c4 (hU.1 h).2.2)], S.fr⟩
   rw [dT c4]
   refine Wb e22 ?_
   refine hJ _ _ ?_ ?_
   ·refine We e1 e20 e21 hA1 ?_
    exact ⟨1, rfl, by omega, hgo (hU.2 ⟨c1, fun h => absurd h (by omega), c4⟩), S⟩
   ·refine Wb e22 ?_
    omega
 obtain rfl : i = x.r.us.length := by omega
 refine Wa ?_
 exact hK _ _ ⟨by rw [dT ⟨n1, by omega, hok⟩], S.fr⟩
theorem RmaRight_ok {h0 : Heap} (x : RetV) (ha : Arr zEnc 1 h0 x.A x.r.us) (hb : Arr zEnc 1 h0 x.B x.r.gs) (l1 : x.r.us.length < 1000000) (l2 : x.r.gs.length < 1000000) :
  CallsH Tryz.prog 131 [.agg x.enc.toArray] h0 fun v h' => v = .bool (dcd x.r.right) ∧ Fr h0 h' [] := by
 have S := St.nil h0
 refine EN i131.eq_1 fun K hK => Wa ?_
 (revert S; (try clear F); refine AL fun b h S F => ?_)
 refine Wc F @RetV.enc.eq_1 ?_
 refine cI (between_ok _ _ _ _) ?_
 rintro _ _ ⟨rfl, rfl⟩
 by_cases p0 : btw x.r.num 1 100
 case neg =>
  rw [dF p0]
  refine Wc F @RetV.enc.eq_1 ?_
  exact hK _ _ ⟨by rw [dF fun h => p0 h.1], S.fr⟩
 rw [dT p0]
 refine Wc F @RetV.enc.eq_1 ?_
 refine cI (between_ok _ _ _ _) ?_
 rintro _ _ ⟨rfl, rfl⟩
 by_cases p1 : btw x.r.ord 0 19
 case neg =>
  rw [dF p1]
  refine Wc F @RetV.enc.eq_1 ?_
  exact hK _ _ ⟨by rw [dF fun h => p1 h.2.1], S.fr⟩
 rw [dT p1]
 refine Wc F @RetV.enc.eq_1 ?_
 refine cI (between_ok _ _ _ _) ?_
 rintro _ _ ⟨rfl, rfl⟩
 by_cases p2 : btw x.r.rea 0 3
 case neg =>
  rw [dF p2]
  refine Wc F @RetV.enc.eq_1 ?_
  exact hK _ _ ⟨by rw [dF fun h => p2 h.2.2.1], S.fr⟩
 rw [dT p2]
 refine Wc F @RetV.enc.eq_1 ?_
 refine cI (between_ok _ _ _ _) ?_
 rintro _ _ ⟨rfl, rfl⟩
 by_cases p3 : btw x.r.want 0 1000
 case neg =>
  rw [dF p3]
  refine Wc F @RetV.enc.eq_1 ?_
  exact hK _ _ ⟨by rw [dF fun h => p3 h.2.2.2.1], S.fr⟩
 rw [dT p3]
 refine Wc F @RetV.enc.eq_1 ?_
 refine cI (between_ok _ _ _ _) ?_
 rintro _ _ ⟨rfl, rfl⟩
 by_cases p4 : btw x.r.res (-1) 199
 case neg =>
  rw [dF p4]
  refine Wc F @RetV.enc.eq_1 ?_
  exact hK _ _ ⟨by rw [dF fun h => p4 h.2.2.2.2.1], S.fr⟩
 rw [dT p4]
 refine Wc F @RetV.enc.eq_1 ?_
 refine cI (between_ok _ _ _ _) ?_
 rintro _ _ ⟨rfl, rfl⟩
 by_cases p5 : btw x.r.state 1 9
 case neg =>
  rw [dF p5]
  refine Wc F @RetV.enc.eq_1 ?_
  exact hK _ _ ⟨by rw [dF fun h => p5 h.2.2.2.2.2.1], S.fr⟩
 rw [dT p5]
 refine Wc F @RetV.enc.eq_1 ?_
 refine cI (between_ok _ _ _ _) ?_
 rintro _ _ ⟨rfl, rfl⟩
 by_cases p6 : btw x.r.day 0 100000
 case neg =>
  rw [dF p6]
  refine Wc F @RetV.enc.eq_1 ?_
  exact hK _ _ ⟨by rw [dF fun h => p6 h.2.2.2.2.2.2.1], S.fr⟩
 rw [dT p6]
 refine Wc F @RetV.enc.eq_1 ?_
 rw [show [Value.int .i64 x.r.num, .int .i64 x.r.ord, .int .i64 x.r.rea, .int .i64 x.r.want, .int .i64 x.r.res, .bool x.r.cred, .int .i64 x.r.state, .int .i64 x.r.day, .slice x.A x.r.us.length x.c, .slice x.B x.r.gs.length x.d, .int .i64 x.r.worth, .int .i64 x.r.paid, .int .i64 x.r.credd, .int .i64 x.r.given] = x.enc from rfl]
 refine cI (runits_ok x (ha.fr S.fr (by simp)) (hb.fr S.fr (by simp)) l1 l2) ?_
 rintro _ h ⟨rfl, f1⟩
 have S := S.frame f1
 by_cases p7 : okUnits x.r.us x.r.gs
 case neg =>
  rw [dF p7]
  refine Wa ?_
  exact hK _ _ ⟨by rw [dF fun h => p7 h.2.2.2.2.2.2.2.1], S.fr⟩
 rw [dT p7]
 ((try clear F); have F := S.fx)
 refine Wc F @RetV.enc.eq_1 ?_
 rw [show [Value.int .i64 x.r.num, .int .i64 x.r.ord, .int .i64 x.r.rea, .int .i64 x.r.want, .int .i64 x.r.res, .bool x.r.cred, .int .i64 x.r.state, .int .i64 x.r.day, .slice x.A x.r.us.length x.c, .slice x.B x.r.gs.length x.d, .int .i64 x.r.worth, .int .i64 x.r.paid, .int .i64 x.r.credd, .int .i64 x.r.given] = x.enc from rfl]
 refine cI (rsums_ok x _) ?_
 rintro _ h ⟨rfl, f1⟩
 have S := S.frame f1
 refine Wa ?_
 refine hK _ _ ⟨?_, S.fr⟩
 by_cases p8 : okMon x.r.worth ∧ okMon x.r.paid ∧ okMon x.r.credd ∧ okMon x.r.given
 ·rw [dT p8, dT ⟨p0, p1, p2, p3, p4, p5, p6, p7, p8⟩]
 ·rw [dF p8, dF fun h => p8 h.2.2.2.2.2.2.2.2]
end
section
set_option maxHeartbeats 4000000
theorem perm_sum {α : Type} (f : α → Nat) {a b : List α} (h : a.Perm b) : (a.map f).sum = (b.map f).sum := by
 induction h with
 | nil => rfl
 | cons x _ ih => simp only [List.map_cons, List.sum_cons, ih]
 | swap x y l => simp only [List.map_cons, List.sum_cons]; omega
 | trans _ _ ih1 ih2 => rw [ih1, ih2]
theorem sum_le_mul {α : Type} (f : α → Nat) (M : Nat) : ∀ {T : List α}, (∀ z ∈ T, f z ≤ M) → (T.map f).sum ≤ T.length * M ∧ ∀ x ∈ T, f x = 0 → (T.map f).sum + M ≤ T.length * M
 | [], _ => ⟨by simp, fun x hx => by cases hx⟩
 | y :: T, h => by
  obtain ⟨h1, h2⟩ := sum_le_mul f M (T := T) fun z hz => h z (by simp [hz])
  have hy := h y (by simp)
  simp only [List.map_cons, List.sum_cons, l_f, Nat.succ_mul]
  refine ⟨by omega, fun x hx h0 => ?_⟩
  rcases List.mem_cons.1 hx with rfl | hx
  ·omega
  ·have := h2 x hx h0; omega
theorem IsShares.le {sum all : Nat} {ws : List Nat} {out : List Int} (H : IsShares sum all ws out) (hall : 0 < all) (he : ws.sum = all) (hle : sum ≤ all) : ∀ i (hi : i < ws.length), out.getD i 0 ≤ (ws[i] : Nat) := by
 obtain ⟨Z, hp, hs, rfl⟩ := H
 obtain ⟨hl1, hl2⟩ := left_law hall he (sum := sum)
 have hZl : Z.length = ws.length := by rw [hp.length_eq, natsI_len]
 have hql : ((quoW sum all ws).map Int.ofNat).length = ws.length := by rw [l_z, quoW_len]
 have hZd : ∀ z ∈ Z, 0 ≤ z ∧ z < (((quoW sum all ws).map Int.ofNat).length : Int) := fun z hz => by rw [hql]; exact natsI_mem.1 (hp.mem_iff.1 hz)
 have hZn : Z.Nodup := hp.nodup_iff.2 (natsI_nodup _)
 have htd : ∀ z ∈ Z.take (sum - (quoW sum all ws).sum), 0 ≤ z ∧ z < (((quoW sum all ws).map Int.ofNat).length : Int) := fun z hz => hZd z (List.mem_of_mem_take hz)
 have hg := bump_get _ _ (hZn.sublist (List.take_sublist (sum - (quoW sum all ws).sum) Z)) htd
 intro i hi
 have hq : ((quoW sum all ws).map Int.ofNat).getD i 0 = ((sum * ws[i] / all : Nat) : Int) := by
  rw [l_s, l_r (by rw [hql]; exact hi)]
  simp only [quoW, l_ae]
  rfl
 rw [hg i (by rw [hql]; exact hi), hq]
 have hqr := quo_rest sum all ws
 rw [he] at hqr
 by_cases c1 : sum = all
 ·have hqw : quoW sum all ws = ws := by
   rw [quoW, c1]
   conv => rhs; rw [← List.map_id ws]
   exact List.map_congr_left fun w _ => by rw [Nat.mul_comm, Nat.mul_div_cancel _ hall]; rfl
  rw [hqw, he, c1, Nat.sub_self, l_an, if_neg (by simp), Nat.mul_comm, Nat.mul_div_cancel _ hall]
  omega
 ·by_cases c2 : ws[i] = 0
  ·rw [if_neg, c2, Nat.mul_zero, Nat.zero_div]
   ·simp
   ·intro hm
    have hr0 : (restW sum all ws).getD ((i : Int).toNat) 0 = 0 := by
     simp only [l_ap, restW, l_s, l_ag, l_r hi, c2]
     simp
    have hrl : ∀ z : Int, (restW sum all ws).getD z.toNat 0 ≤ all - 1 := fun z => by
     rw [l_s, restW, l_ag]
     cases ws[z.toNat]? with
     | none => simp
     | some w =>
      have := Nat.mod_lt (sum * w) hall
      simp only [Option.map_some, Option.getD_some]
      omega
    have hsz : (Z.map fun z : Int => (restW sum all ws).getD z.toNat 0).sum = (restW sum all ws).sum := by
     rw [perm_sum _ hp]
     congr 1
     apply List.ext_getElem
     ·simp [natsI, restW]
     ·intro k h1 h2
      simp only [natsI, l_ae, List.getElem_range]
      show (restW sum all ws).getD ((k : Int).toNat) 0 = _
      rw [l_ap, l_s, l_r h2]
      rfl
    have hcut : (Z.map fun z : Int => (restW sum all ws).getD z.toNat 0).sum = ((Z.take (sum - (quoW sum all ws).sum)).map fun z : Int => (restW sum all ws).getD z.toNat 0).sum + ((Z.drop (sum - (quoW sum all ws).sum)).map fun z : Int => (restW sum all ws).getD z.toNat 0).sum := by
     conv => lhs; rw [← List.take_append_drop (sum - (quoW sum all ws).sum) Z, l_al, List.sum_append]
    have hdr : ∀ z ∈ Z.drop (sum - (quoW sum all ws).sum), (restW sum all ws).getD z.toNat 0 ≤ 0 := fun z hz => by
     rw [← List.take_append_drop (sum - (quoW sum all ws).sum) Z] at hs
     have hrk := (List.pairwise_append.1 hs).2.2 _ hm z hz
     unfold Rk at hrk
     simp only at hrk
     omega
    have h3 := (sum_le_mul (fun z : Int => (restW sum all ws).getD z.toNat 0) 0 hdr).1
    have h4 := (sum_le_mul (fun z : Int => (restW sum all ws).getD z.toNat 0) (all - 1) (T := Z.take (sum - (quoW sum all ws).sum)) fun z _ => hrl z).2 _ hm hr0
    rw [l_ad, Nat.min_eq_left (by omega)] at h4
    obtain ⟨d, hd⟩ : ∃ d, sum = (quoW sum all ws).sum + d := ⟨sum - (quoW sum all ws).sum, by omega⟩
    have hd2 : sum - (quoW sum all ws).sum = d := by omega
    rw [hd2] at h3 h4 hcut hm
    obtain ⟨m, hm1⟩ : ∃ m, all = m + 1 := ⟨all - 1, by omega⟩
    have h5 : d * all = (restW sum all ws).sum := by
     have h6 : sum * all = (quoW sum all ws).sum * all + d * all := by
      conv => lhs; rw [hd, Nat.add_mul]
     omega
    rw [hsz] at hcut
    have h7 : d * all = d * (all - 1) + d := by rw [hm1, Nat.add_sub_cancel, Nat.mul_succ]
    have h8 : d = 0 := by omega
    rw [h8] at hm
    simp at hm
  ·have hlt : sum * ws[i] < all * ws[i] := Nat.mul_lt_mul_of_pos_right (by omega) (by omega)
   have hq2 : sum * ws[i] / all < ws[i] := (Nat.div_lt_iff_lt_mul hall).2 (by rw [Nat.mul_comm (ws[i])]; exact hlt)
   split <;> omega
theorem shF_le {s : Nat} {P : List Int} (hask : askS s P = 0) (hle : (s : Int) ≤ P.sum) {k : Nat} (hk : k < P.length) (hk2 : k < (shF s P).length) : (shF s P)[k] ≤ P[k] := by
 obtain ⟨hw0, hw1, hf, hs0, hs1, hs2, hs3⟩ := ask0 hask
 by_cases hz : P.sum = 0
 ·have h0 : s = 0 := by omega
  have := (shF_len hask).2.2 _ (l_v hk2)
  have hp := (hf _ (l_v hk)).1
  omega
 ·obtain ⟨hep, _⟩ := effW_pos hask
  have he : effW P = P.map Int.toNat := by unfold effW; rw [if_neg hz]
  have hsum := sumI (P.map Int.toNat)
  rw [toNat_back hf] at hsum
  have hb := (shF_is s P).le hep rfl (by rw [he]; omega) k (by rw [effW_len]; exact hk)
  rw [l_s, l_r hk2] at hb
  simp only [Option.getD_some, he, l_ae] at hb
  have hp := (hf _ (l_v hk)).1
  omega
theorem unitsOf_nn {o : Odr} (h : OkO o) (i : Int) : ∀ u ∈ unitsOf o i, 0 ≤ u.share ∧ u.share ≤ 4294967296 := by
 intro u hu
 refine ⟨?_, by have := (unitsR_bound h i 3 u hu).2; omega⟩
 obtain ⟨k, hk, rfl⟩ := l_af hu
 have hl := unitsR_len h i 3
 have hv := (len_sum o.ls h.count).2.2 i
 have hk' : k < (priceL o.ls).length := by rw [← hl]; exact hk
 have e0 : (psum o 0).toNat = o.disc.toNat := rfl
 have e1 : (psum o 1).toNat = o.tax.toNat := rfl
 have e2 : (psum o 2).toNat = o.ship.toNat := rfl
 have h0 := h.sh 0
 have h1 := h.sh 1
 have h2 := h.sh 2
 rw [e0] at h0
 rw [e1] at h1
 rw [e2] at h2
 rw [unitsOf_at h i (by omega) (by omega) (by omega) (by omega) hk]
 have b1 := h1.2.2 _ (l_v (l := shF o.tax.toNat (priceL o.ls)) (n := k) (by omega))
 have b2 := h2.2.2 _ (l_v (l := shF o.ship.toNat (priceL o.ls)) (n := k) (by omega))
 have hask := h.ask h.disc
 have hd0 := h.disc.1
 rw [← Int.toNat_of_nonneg hd0] at hask
 have b0 := shF_le hask (by rw [(len_sum o.ls h.count).2.1, Int.toNat_of_nonneg hd0]; exact h.le) hk' (by omega)
 have hp : ((expandU i o.ls)[k]'(by omega)).share = (priceL o.ls)[k] := by
  have := hv.2
  simp only [← this, l_ae]
 show 0 ≤ ((expandU i o.ls)[k]'(by omega)).share - _ + _ + _
 rw [hp]
 omega
theorem units_nn {C : Cfg} (hok : okCfg C) : ∀ u ∈ unitsAll C, 0 ≤ u.share ∧ u.share ≤ 4294967296 := by
 intro u hu
 rw [unitsAll, l_y] at hu
 rcases hu with hu | hu
 ·have : ∀ (os : List Odr) (j : Nat), (∀ o ∈ os, OkO o) → ∀ u ∈ ordsU j os, 0 ≤ u.share ∧ u.share ≤ 4294967296 := by
   intro os
   induction os with
   | nil => intro j _ u hu; cases hu
   | cons o os ih =>
    intro j h u hu
    rw [ordsU, l_y] at hu
    rcases hu with hu | hu
    ·exact unitsOf_nn (h o (by simp)) j u hu
    ·exact ih (j + 1) (fun x hx => h x (by simp [hx])) u hu
  exact this C.os 0 hok.okO u hu
 ·simp only [List.mem_flatMap, supU, List.mem_replicate] at hu
  obtain ⟨s, hs, _, rfl⟩ := hu
  have := (hok.2.2.2.2.1.1 s hs).2.1
  exact ⟨this.1, by have := this.2; show s.price ≤ _; omega⟩
end
section
set_option maxHeartbeats 8000000
def polOf (ps : List Pol) (k : Int) : Pol := if 0 ≤ k then ps.getD k.toNat Pol.zero else Pol.zero
def untAt (U : List Unt) (u : Int) : Unt := U.getD u.toNat ⟨0, 0, 0, 0⟩
theorem zero_right : Pol.zero.right := by
 simp [Pol.right, Pol.zero, okPts, okGrade]
theorem polOf_right {ps : List Pol} (h : RightT ps) (k : Int) : (polOf ps k).right := by
 unfold polOf
 split
 ·rw [l_s]
  by_cases hk : k.toNat < ps.length
  ·rw [l_r hk]; exact h.2 _ (l_v hk)
  ·rw [List.getElem?_eq_none (by omega)]; exact zero_right
 ·exact zero_right
theorem polOf_at {ps : List Pol} {i : Nat} (hi : i < ps.length) : polOf ps (i : Int) = ps[i] := by
 rw [polOf, if_pos (by omega), l_ap, l_s, l_r hi]; rfl
theorem polOf_out {ps : List Pol} {k : Int} (hk : k < 0 ∨ (ps.length : Int) ≤ k) : polOf ps k = Pol.zero := by
 unfold polOf
 split
 ·rw [l_s, List.getElem?_eq_none (by omega)]; rfl
 ·rfl
def shOk (U : List Unt) : Prop := ∀ u ∈ U, 0 ≤ u.share ∧ u.share ≤ 4294967296
theorem untAt_share {U : List Unt} (h : shOk U) (u : Int) : 0 ≤ (untAt U u).share ∧ (untAt U u).share ≤ 4294967296 := by
 unfold untAt
 rw [l_s]
 by_cases hk : u.toNat < U.length
 ·rw [l_r hk]; exact h _ (l_v hk)
 ·rw [List.getElem?_eq_none (by omega)]; exact ⟨by decide, by decide⟩
theorem OfP_ok {h0 h : Heap} {l : List HP} {A : Option Addr} {c : Nat} {xs : List Pol} (S : St h0 h l) (ha : ∀ h', St h0 h' l → Arr Pol.enc 16 h' A xs) (k : Int) :
  CallsH Tryz.prog 121 [.slice A xs.length c, .int .i64 k] h fun v h' => St h0 h' l ∧ ∃ e, v = .tuple #[.agg (polOf xs k).enc.toArray, .int .i64 e] := by
 refine (Of_ok S ha k).mono ?_
 rintro v h' ⟨S, ⟨i, hi, rfl, rfl⟩ | ⟨hk, rfl⟩⟩
 ·exact ⟨S, 0, by rw [polOf_at hi]⟩
 ·exact ⟨S, 10, by rw [polOf_out hk]⟩
end
section
set_option maxHeartbeats 16000000
def priceOf (ss : List Sup) (sku : Int) : Option Int := match ss with
 | [] => none
 | s :: ss => if s.sku = sku then some s.price else priceOf ss sku
theorem priceOf_at {ss : List Sup} {sku : Int} : ∀ {i : Nat} (hi : i < ss.length), (∀ s ∈ ss.take i, s.sku ≠ sku) → ss[i].sku = sku → priceOf ss sku = some ss[i].price := by
 induction ss with
 | nil => intro i hi; simp at hi
 | cons s ss ih =>
  intro i hi h1 h2
  match i with
  | 0 => simp only [List.getElem_cons_zero] at h2 ⊢; rw [priceOf, if_pos h2]
  | i + 1 =>
   rw [priceOf, if_neg (h1 s (by simp))]
   exact ih (by simpa using hi) (fun x hx => h1 x (by simp [hx])) h2
theorem priceOf_no {ss : List Sup} {sku : Int} (h : ∀ s ∈ ss, s.sku ≠ sku) : priceOf ss sku = none := by
 induction ss with
 | nil => rfl
 | cons s ss ih => rw [priceOf, if_neg (h s (by simp)), ih fun x hx => h x (by simp [hx])]
theorem sku_snoc {ss : List Sup} {sku : Int} {i : Nat} (hi : i < ss.length) (h1 : ∀ s ∈ ss.take i, s.sku ≠ sku) (h2 : ¬ ss[i].sku = sku) : ∀ s ∈ ss.take (i + 1), s.sku ≠ sku := by
 rw [l_t hi]
 intro s hs
 rcases List.mem_append.1 hs with hs | hs
 ·exact h1 s hs
 ·rw [l_aa] at hs; rw [hs]; exact h2
theorem OPrice_ok {h0 : Heap} (C : Cfg) (sku : Int) (r : Arr Sup.enc 3 h0 C.A2 C.ss) (l2 : C.ss.length < 1000000) :
  CallsH Tryz.prog 119 [.agg C.enc.toArray, .int .i64 sku] h0 fun v h' => v = .tuple #[.int .i64 ((priceOf C.ss sku).getD 0), .int .i64 (if (priceOf C.ss sku).isSome then 0 else 7)] ∧ Fr h0 h' [] := by
 have S := St.nil h0
 refine EN i119.eq_1 fun K hK => Wa ?_
 (revert S; (try clear F); refine AL fun g h S F => ?_)
 refine Wc F @Cfg.enc.eq_1 ?_
 refine lI (fun ρ h' => ρ 1 = .int .i64 sku ∧ ρ 9 = .slice C.A2 C.ss.length C.c2 ∧ ρ 10 = .int .i64 C.ss.length ∧ (∃ i : Nat, ρ 11 = .int .i64 i ∧ i ≤ C.ss.length ∧ ∀ s ∈ C.ss.take i, s.sku ≠ sku) ∧ St h0 h' []) (fun ρ _ => C.ss.length - (iv (ρ 11)).toNat) ?_ ?_
 ·refine Wa ?_
  exact ⟨⟨0, rfl, by omega, by simp⟩, S.tl⟩
 clear S F
 rintro ρ h J hJ ⟨e1, e9, e10, ⟨i, e11, hi, hne⟩, S⟩
 refine Wc e10 e11 ?_
 refine cD (fun hlt => ?_) (fun hlt => ?_)
 ·have hil : i < C.ss.length := by omega
  obtain ⟨b, off, hA, hr1⟩ := (r.fr S.fr (by simp)).at hil
  have hat := fun h => priceOf_at (sku := sku) hil hne h
  have hsn := fun h => sku_snoc (sku := sku) hil hne h
  generalize C.ss[i] = x at *
  refine We e9 e11 hA hr1 ?_
  (revert S; (try clear F); refine AL fun q h S F => ?_)
  refine Wc F @Sup.enc.eq_1 ?_
  (revert S; (try clear F); refine ST fun h S F => ?_)
  by_cases c1 : x.sku = sku
  ·refine Wd F e1 c1 ?_
   exact hK _ _ ⟨by rw [hat c1]; rfl, S.fr⟩
  ·refine We F e1 c1 e11 ?_
   refine hJ _ _ ?_ ?_
   ·refine Wd e1 e9 e10 ?_
    exact ⟨⟨i + 1, rfl, by omega, hsn c1⟩, S.tl⟩
   ·refine Wb e11 ?_
    omega
 ·obtain rfl : i = C.ss.length := by omega
  rw [l_aj] at hne
  refine Wa ?_
  exact hK _ _ ⟨by rw [priceOf_no hne]; rfl, S.fr⟩
end
end Go.Proofs.YtcgbhcgfdcfmaaaGreat.MX
