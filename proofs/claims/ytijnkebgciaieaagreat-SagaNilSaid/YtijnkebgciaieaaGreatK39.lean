import Derived.Test.YtijnkebgciaieaaGreatK38
import Derived.Test.YtijnkebgciaieaaGreatK14
namespace Go.Proofs.YtijnkebgciaieaaGreat.MX
open Go Go.Proofs
set_option linter.unusedSimpArgs false
set_option linter.unusedVariables false
section
set_option maxHeartbeats 8000000
def Cmd.zero : Cmd := ⟨0, 0, [], 0, 0, false, 0, 0, 0, 0, 0, false⟩
def Cmd.need (c : Cmd) : Cmd :=
 if c.kind = 1 then { Cmd.zero with kind := c.kind, ord := c.ord, us := c.us, rea := c.rea, want := c.want, cred := c.cred }
 else if 2 ≤ c.kind ∧ c.kind ≤ 5 then { Cmd.zero with kind := c.kind, rma := c.rma }
 else if c.kind = 6 then { Cmd.zero with kind := c.kind, rma := c.rma, unit := c.unit, grade := c.grade }
 else if c.kind = 7 then { Cmd.zero with kind := c.kind, days := c.days }
 else if c.kind = 8 then { Cmd.zero with kind := c.kind, key := c.key, yes := c.yes } else { Cmd.zero with kind := c.kind }
theorem need_iff (c : Cmd) : c = c.need ↔ c.bare.nought := by
 obtain ⟨kind, ord, us, rea, want, cred, rma, unit, grade, days, key, yes⟩ := c
 unfold Cmd.need Cmd.bare Cmd.nought Cmd.zero
 simp only
 repeat' split
 all_goals simp only [Cmd.mk.injEq, true_and, and_true]
structure Cmd.i64 (c : Cmd) : Prop where
 kind : I64 c.kind
 ord : I64 c.ord
 us : ∀ u ∈ c.us, I64 u
 rea : I64 c.rea
 want : I64 c.want
 rma : I64 c.rma
 unit : I64 c.unit
 grade : I64 c.grade
 days : I64 c.days
 key : I64 c.key
theorem EqInts_ok {h : Heap} {A B : Option Addr} {c d : Nat} {xs ys : List Int} (ha : Arr zEnc 1 h A xs) (hb : Arr zEnc 1 h B ys) (hl : xs.length < 1000000) (hl2 : ys.length < 1000000) :
  CallsH Tryz.prog 56 [.slice A xs.length c, .slice B ys.length d] h fun r h' => r = .bool (dcd (xs = ys)) ∧ h' = h := by
 by_cases hn : xs.length = ys.length
 case neg =>
  have hne : ¬ ((xs.length : Int) = ys.length) := by omega
  (refine eK c_slices_Equal_int_int (l_a rfl) fun K hK => ?_; (try simp (disch := first|omega|assumption|exact l_a rfl) only [go_sem, ↓wBk, simprocAttr, ir_slices_Equal_int_int]))
  (try simp (disch := first|omega|assumption|exact l_a rfl) only [go_sem, ↓wBk, simprocAttr, hne])
  exact hK _ _ ⟨by rw [dF fun h => hn (by rw [h])], rfl⟩
 (refine eK c_slices_Equal_int_int (l_a rfl) fun K hK => ?_; (try simp (disch := first|omega|assumption|exact l_a rfl) only [go_sem, ↓wBk, simprocAttr, ir_slices_Equal_int_int]))
 (try simp (disch := first|omega|assumption|exact l_a rfl) only [go_sem, ↓wBk, simprocAttr, hn])
 refine lI (fun ρ h' => h' = h ∧ ρ 0 = .slice A xs.length c ∧ ρ 1 = .slice B ys.length d ∧ ρ 12 = .int .i64 ys.length ∧ ∃ i : Nat, ρ 13 = .int .i64 i ∧ i ≤ ys.length ∧ ∀ j, j < i → xs.getD j 0 = ys.getD j 0) (fun ρ _ => ys.length - (iv (ρ 13)).toNat) ?_ ?_
 ·(try simp (disch := first|omega|assumption|exact l_a rfl) only [go_sem, ↓wBk, simprocAttr, hn])
  exact ⟨0, rfl, by omega, fun j hj => absurd hj (by omega)⟩
 rintro ρ h' J hJ ⟨rfl, e0, e1, e12, i, e13, hi, heq⟩
 (try simp (disch := first|omega|assumption|exact l_a rfl) only [go_sem, ↓wBk, simprocAttr, e12, e13])
 refine cD (fun hlt => ?_) (fun hlt => ?_)
 ·have hil : i < ys.length := by omega
  obtain ⟨b1, o1, hA, q1⟩ := ha.at (i := i) (by omega)
  have q1 := rP0 q1 (by omega)
  obtain ⟨b2, o2, hB, q2⟩ := hb.at hil
  have q2 := rP0 q2 (by omega)
  simp only [zEnc, l_o, Nat.mul_one] at q1 q2
  rw [← getD_at] at q1 q2
  (try simp (disch := first|omega|assumption|exact l_a rfl) only [go_sem, ↓wBk, simprocAttr, e13])
  refine dE ?_
  by_cases hv : xs.getD i 0 = ys.getD i 0
  ·(try simp (disch := first|omega|assumption|exact l_a rfl) only [go_sem, ↓wBk, simprocAttr, e0, e1, e13, hA, hB, q1, q2, Nat.mul_one, hv])
   refine hJ _ _ ?_ ?_
   ·(try simp (disch := first|omega|assumption|exact l_a rfl) only [go_sem, ↓wBk, simprocAttr, e0, e1, e12, hA, hB])
    refine ⟨i + 1, rfl, by omega, fun j hj => ?_⟩
    by_cases e : j = i
    ·rw [e]; exact hv
    ·exact heq j (by omega)
   ·(try simp (disch := first|omega|assumption|exact l_a rfl) only [go_sem, ↓wBk, simprocAttr, e13])
    omega
  ·(try simp (disch := first|omega|assumption|exact l_a rfl) only [go_sem, ↓wBk, simprocAttr, e0, e1, e13, hA, hB, q1, q2, Nat.mul_one, hv])
   exact hK _ _ ⟨by rw [dF fun h => hv (by rw [h])], rfl⟩
 obtain rfl : i = ys.length := by omega
 (try simp (disch := first|omega|assumption|exact l_a rfl) only [go_sem, ↓wBk, simprocAttr])
 refine hK _ _ ⟨?_, rfl⟩
 rw [dT]
 refine List.ext_getElem hn fun j h1 h2 => ?_
 have := heq j h2
 rw [getD_at h1, getD_at h2] at this
 exact this
theorem need_ok (x : CmdV) (h : Heap) : CallsH Tryz.prog 36 [.agg x.enc.toArray] h fun v h' => ∃ y : CmdV, v = .agg y.enc.toArray ∧ y.c = x.c.need ∧ (∀ h'', Arr zEnc 1 h'' x.A x.c.us → Arr zEnc 1 h'' y.A y.c.us) ∧ Fr h h' [] := by
 have S := St.nil h
 have hnil : ∀ h'', Arr zEnc 1 h'' none [] := fun h'' i hi => absurd hi (by simp)
 (refine eK c_command_needed (l_a rfl) fun K hK => ?_; (try simp (disch := first|omega|assumption|exact l_a rfl) only [go_sem, ↓wBk, simprocAttr, ir_command_needed]))
 (refine tA S ?_; clear S; intro b h S; (try simp only [sC, sN, l_h, l_i, Nat.zero_add, Nat.reduceAdd, l_j, l_k] at S); ((try clear F); have F := S.all; (try simp only [aC, aN, yC, and_true] at F)))
 (try simp (disch := first|omega|assumption|exact l_a rfl) only [go_sem, ↓wBk, simprocAttr])
 (refine tA S ?_; clear S; intro r h S; (try simp only [sC, sN, l_h, l_i, Nat.zero_add, Nat.reduceAdd, l_j, l_k] at S); ((try clear F); have F := S.all; (try simp only [aC, aN, yC, and_true] at F)))
 (try simp (disch := first|omega|assumption|exact l_a rfl) only [go_sem, ↓wBk, simprocAttr, F, CmdV.enc])
 (refine tA S ?_; clear S; intro n h S; (try simp only [sC, sN, l_h, l_i, Nat.zero_add, Nat.reduceAdd, l_j, l_k] at S); ((try clear F); have F := S.all; (try simp only [aC, aN, yC, and_true] at F)))
 (try simp (disch := first|omega|assumption|exact l_a rfl) only [go_sem, ↓wBk, simprocAttr])
 (refine tS (by first | exact S | exact S.p1 | exact S.p2 | exact S.p3 | exact S.p4 | exact S.p5 | exact S.p6 | exact S.p7 | exact S.p8 | exact S.p9 | exact S.p10 | exact S.p11) (by rfl) (by rfl) (l_a rfl) ?_; clear S; intro h S; (try simp only [sC, sN, l_h, l_i, Nat.zero_add, Nat.reduceAdd, l_j, l_k] at S); ((try clear F); have F := S.all; (try simp only [aC, aN, yC, and_true] at F)))
 (try simp (disch := first|omega|assumption|exact l_a rfl) only [go_sem, ↓wBk, simprocAttr, F, CmdV.enc])
 have rb : ∀ (off : Nat) (v : Value), x.enc[off]? = some v → ∀ K t, readT (fun h' => blk h' b = some (x.enc, 31, (0, 0))) (fun h' => rd1 h' (.pointer (some ⟨b, off, none⟩))) K t = K v := fun off v hv K t => rI (fun h' hb => by rw [rd1_blk hb]; exact hv) h S.p2.blk
 have r1 := rb 1 _ rfl
 have r2 := rb 2 _ rfl
 have r3 := rb 3 _ rfl
 have r4 := rb 4 _ rfl
 have r5 := rb 5 _ rfl
 have r6 := rb 6 _ rfl
 have r7 := rb 7 _ rfl
 have r8 := rb 8 _ rfl
 have r9 := rb 9 _ rfl
 have r10 := rb 10 _ rfl
 have r11 := rb 11 _ rfl
 by_cases k1 : x.c.kind = 1
 ·have hd : x.c.need = { Cmd.zero with kind := x.c.kind, ord := x.c.ord, us := x.c.us, rea := x.c.rea, want := x.c.want, cred := x.c.cred } := if_pos k1
  (try simp (disch := first|omega|assumption|exact l_a rfl) only [go_sem, ↓wBk, simprocAttr, k1])
  refine dI (fun h' => blk h' b = some (x.enc, 31, (0, 0))) S.p2.blk ?_
  (try simp (disch := first|omega|assumption|exact l_a rfl) only [go_sem, ↓wBk, simprocAttr, r1, r2, r3, r4, r5])
  (refine tS S rfl rfl (l_a rfl) ?_; clear S; intro h S; (try simp only [sC, sN, l_h, l_i, Nat.zero_add, Nat.reduceAdd, l_j, l_k] at S); refine ⟨S.p2.blk, ?_⟩; (try simp (disch := first|omega|assumption|exact l_a rfl) only [go_sem, ↓wBk, simprocAttr]))
  (refine tS S rfl rfl (l_a rfl) ?_; clear S; intro h S; (try simp only [sC, sN, l_h, l_i, Nat.zero_add, Nat.reduceAdd, l_j, l_k] at S); refine ⟨S.p2.blk, ?_⟩; (try simp (disch := first|omega|assumption|exact l_a rfl) only [go_sem, ↓wBk, simprocAttr]))
  (refine tS S rfl rfl (l_a rfl) ?_; clear S; intro h S; (try simp only [sC, sN, l_h, l_i, Nat.zero_add, Nat.reduceAdd, l_j, l_k] at S); refine ⟨S.p2.blk, ?_⟩; (try simp (disch := first|omega|assumption|exact l_a rfl) only [go_sem, ↓wBk, simprocAttr]))
  (refine tS S rfl rfl (l_a rfl) ?_; clear S; intro h S; (try simp only [sC, sN, l_h, l_i, Nat.zero_add, Nat.reduceAdd, l_j, l_k] at S); refine ⟨S.p2.blk, ?_⟩; (try simp (disch := first|omega|assumption|exact l_a rfl) only [go_sem, ↓wBk, simprocAttr]))
  (refine tS S rfl rfl (l_a rfl) ?_; clear S; intro h S; (try simp only [sC, sN, l_h, l_i, Nat.zero_add, Nat.reduceAdd, l_j, l_k] at S))
  (have Fn := st_rdN (off := 0) (n := 12) S (by simp); simp only [l_ao, l_aq, l_an] at Fn; (try simp (disch := first|omega|assumption|exact l_a rfl) only [go_sem, ↓wBk, simprocAttr, Fn]); refine tS S.p1 rfl rfl (l_a rfl) ?_; clear S; intro h S; (try simp only [sC, sN, l_h, l_i, Nat.zero_add, Nat.reduceAdd, l_j, l_k] at S); ((try clear F); have F := S.all; (try simp only [aC, aN, yC, and_true] at F)); (try simp (disch := first|omega|assumption|exact l_a rfl) only [go_sem, ↓wBk, simprocAttr, F]))
  refine hK _ _ ⟨⟨x.c.need, x.A, x.n⟩, by rw [CmdV.enc, hd, k1]; rfl, rfl, fun h'' ha => by rw [hd]; exact ha, S.fr⟩
 by_cases k2 : 2 ≤ x.c.kind ∧ x.c.kind ≤ 5
 ·have hd : x.c.need = { Cmd.zero with kind := x.c.kind, rma := x.c.rma } := by rw [Cmd.need, if_neg k1, if_pos k2]
  have hk : x.c.kind = 2 ∨ x.c.kind = 3 ∨ x.c.kind = 4 ∨ x.c.kind = 5 := by omega
  rcases hk with e | e | e | e
  all_goals
   have F := st_rd1 (off := 6) S.p2
   simp only [CmdV.enc, l_o, l_p] at F
   (try simp (disch := first|omega|assumption|exact l_a rfl) only [go_sem, ↓wBk, simprocAttr, e, F])
   refine tS S rfl rfl (l_a rfl) ?_
   clear S
   intro h S
   (try simp only [sC, sN, l_h, l_i, Nat.zero_add, Nat.reduceAdd, l_j, l_k] at S)
   (have Fn := st_rdN (off := 0) (n := 12) S (by simp); simp only [l_ao, l_aq, l_an] at Fn; (try simp (disch := first|omega|assumption|exact l_a rfl) only [go_sem, ↓wBk, simprocAttr, Fn]); refine tS S.p1 rfl rfl (l_a rfl) ?_; clear S; intro h S; (try simp only [sC, sN, l_h, l_i, Nat.zero_add, Nat.reduceAdd, l_j, l_k] at S); ((try clear F); have F := S.all; (try simp only [aC, aN, yC, and_true] at F)); (try simp (disch := first|omega|assumption|exact l_a rfl) only [go_sem, ↓wBk, simprocAttr, F]))
   refine hK _ _ ⟨⟨x.c.need, none, 0⟩, by rw [CmdV.enc, hd, e]; rfl, rfl, fun h'' ha => by rw [hd]; exact hnil _, S.fr⟩
 by_cases k6 : x.c.kind = 6
 ·have hd : x.c.need = { Cmd.zero with kind := x.c.kind, rma := x.c.rma, unit := x.c.unit, grade := x.c.grade } := by rw [Cmd.need, if_neg k1, if_neg k2, if_pos k6]
  (try simp (disch := first|omega|assumption|exact l_a rfl) only [go_sem, ↓wBk, simprocAttr, k6])
  refine dI (fun h' => blk h' b = some (x.enc, 31, (0, 0))) S.p2.blk ?_
  (try simp (disch := first|omega|assumption|exact l_a rfl) only [go_sem, ↓wBk, simprocAttr, r6, r7, r8])
  (refine tS S rfl rfl (l_a rfl) ?_; clear S; intro h S; (try simp only [sC, sN, l_h, l_i, Nat.zero_add, Nat.reduceAdd, l_j, l_k] at S); refine ⟨S.p2.blk, ?_⟩; (try simp (disch := first|omega|assumption|exact l_a rfl) only [go_sem, ↓wBk, simprocAttr]))
  (refine tS S rfl rfl (l_a rfl) ?_; clear S; intro h S; (try simp only [sC, sN, l_h, l_i, Nat.zero_add, Nat.reduceAdd, l_j, l_k] at S); refine ⟨S.p2.blk, ?_⟩; (try simp (disch := first|omega|assumption|exact l_a rfl) only [go_sem, ↓wBk, simprocAttr]))
  (refine tS S rfl rfl (l_a rfl) ?_; clear S; intro h S; (try simp only [sC, sN, l_h, l_i, Nat.zero_add, Nat.reduceAdd, l_j, l_k] at S))
  (have Fn := st_rdN (off := 0) (n := 12) S (by simp); simp only [l_ao, l_aq, l_an] at Fn; (try simp (disch := first|omega|assumption|exact l_a rfl) only [go_sem, ↓wBk, simprocAttr, Fn]); refine tS S.p1 rfl rfl (l_a rfl) ?_; clear S; intro h S; (try simp only [sC, sN, l_h, l_i, Nat.zero_add, Nat.reduceAdd, l_j, l_k] at S); ((try clear F); have F := S.all; (try simp only [aC, aN, yC, and_true] at F)); (try simp (disch := first|omega|assumption|exact l_a rfl) only [go_sem, ↓wBk, simprocAttr, F]))
  refine hK _ _ ⟨⟨x.c.need, none, 0⟩, by rw [CmdV.enc, hd, k6]; rfl, rfl, fun h'' ha => by rw [hd]; exact hnil _, S.fr⟩
 by_cases k7 : x.c.kind = 7
 ·have hd : x.c.need = { Cmd.zero with kind := x.c.kind, days := x.c.days } := by rw [Cmd.need, if_neg k1, if_neg k2, if_neg k6, if_pos k7]
  have F := st_rd1 (off := 9) S.p2
  simp only [CmdV.enc, l_o, l_p] at F
  (try simp (disch := first|omega|assumption|exact l_a rfl) only [go_sem, ↓wBk, simprocAttr, k7, F])
  refine tS S rfl rfl (l_a rfl) ?_
  clear S
  intro h S
  (try simp only [sC, sN, l_h, l_i, Nat.zero_add, Nat.reduceAdd, l_j, l_k] at S)
  (have Fn := st_rdN (off := 0) (n := 12) S (by simp); simp only [l_ao, l_aq, l_an] at Fn; (try simp (disch := first|omega|assumption|exact l_a rfl) only [go_sem, ↓wBk, simprocAttr, Fn]); refine tS S.p1 rfl rfl (l_a rfl) ?_; clear S; intro h S; (try simp only [sC, sN, l_h, l_i, Nat.zero_add, Nat.reduceAdd, l_j, l_k] at S); ((try clear F); have F := S.all; (try simp only [aC, aN, yC, and_true] at F)); (try simp (disch := first|omega|assumption|exact l_a rfl) only [go_sem, ↓wBk, simprocAttr, F]))
  refine hK _ _ ⟨⟨x.c.need, none, 0⟩, by rw [CmdV.enc, hd, k7]; rfl, rfl, fun h'' ha => by rw [hd]; exact hnil _, S.fr⟩
 by_cases k8 : x.c.kind = 8
 ·have hd : x.c.need = { Cmd.zero with kind := x.c.kind, key := x.c.key, yes := x.c.yes } := by rw [Cmd.need, if_neg k1, if_neg k2, if_neg k6, if_neg k7, if_pos k8]
  (try simp (disch := first|omega|assumption|exact l_a rfl) only [go_sem, ↓wBk, simprocAttr, k8])
  refine dI (fun h' => blk h' b = some (x.enc, 31, (0, 0))) S.p2.blk ?_
  (try simp (disch := first|omega|assumption|exact l_a rfl) only [go_sem, ↓wBk, simprocAttr, r10, r11])
  (refine tS S rfl rfl (l_a rfl) ?_; clear S; intro h S; (try simp only [sC, sN, l_h, l_i, Nat.zero_add, Nat.reduceAdd, l_j, l_k] at S); refine ⟨S.p2.blk, ?_⟩; (try simp (disch := first|omega|assumption|exact l_a rfl) only [go_sem, ↓wBk, simprocAttr]))
  (refine tS S rfl rfl (l_a rfl) ?_; clear S; intro h S; (try simp only [sC, sN, l_h, l_i, Nat.zero_add, Nat.reduceAdd, l_j, l_k] at S))
  (have Fn := st_rdN (off := 0) (n := 12) S (by simp); simp only [l_ao, l_aq, l_an] at Fn; (try simp (disch := first|omega|assumption|exact l_a rfl) only [go_sem, ↓wBk, simprocAttr, Fn]); refine tS S.p1 rfl rfl (l_a rfl) ?_; clear S; intro h S; (try simp only [sC, sN, l_h, l_i, Nat.zero_add, Nat.reduceAdd, l_j, l_k] at S); ((try clear F); have F := S.all; (try simp only [aC, aN, yC, and_true] at F)); (try simp (disch := first|omega|assumption|exact l_a rfl) only [go_sem, ↓wBk, simprocAttr, F]))
  refine hK _ _ ⟨⟨x.c.need, none, 0⟩, by rw [CmdV.enc, hd, k8]; rfl, rfl, fun h'' ha => by rw [hd]; exact hnil _, S.fr⟩
 have hd : x.c.need = { Cmd.zero with kind := x.c.kind } := by rw [Cmd.need, if_neg k1, if_neg k2, if_neg k6, if_neg k7, if_neg k8]
 have n2 : ¬ x.c.kind = 2 := by omega
 have n3 : ¬ x.c.kind = 3 := by omega
 have n4 : ¬ x.c.kind = 4 := by omega
 have n5 : ¬ x.c.kind = 5 := by omega
 (try simp (disch := first|omega|assumption|exact l_a rfl) only [go_sem, ↓wBk, simprocAttr, k1, n2, n3, n4, n5, k6, k7, k8])
 (have Fn := st_rdN (off := 0) (n := 12) S (by simp); simp only [l_ao, l_aq, l_an] at Fn; (try simp (disch := first|omega|assumption|exact l_a rfl) only [go_sem, ↓wBk, simprocAttr, Fn]); refine tS S.p1 rfl rfl (l_a rfl) ?_; clear S; intro h S; (try simp only [sC, sN, l_h, l_i, Nat.zero_add, Nat.reduceAdd, l_j, l_k] at S); ((try clear F); have F := S.all; (try simp only [aC, aN, yC, and_true] at F)); (try simp (disch := first|omega|assumption|exact l_a rfl) only [go_sem, ↓wBk, simprocAttr, F]))
 refine hK _ _ ⟨⟨x.c.need, none, 0⟩, by rw [CmdV.enc, hd]; rfl, rfl, fun h'' ha => by rw [hd]; exact hnil _, S.fr⟩
end
end Go.Proofs.YtijnkebgciaieaaGreat.MX
