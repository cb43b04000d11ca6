import Derived.Test.YtcgbhcgfdcfmaaaGreatK09
namespace Go.Proofs.YtcgbhcgfdcfmaaaGreat.MX
open Go Go.Proofs
set_option linter.unusedSimpArgs false
set_option linter.unusedVariables false
theorem Drop_ok (rma kind : Int) {base : Nat} {h : Heap} {o : Nat} {s : Value} {next : Int} {l : List Msg} (hi : IsOb base h o s next l) (hl : l.length < 1000000) :
  CallsH Tryz.prog 85 [.pointer (some ⟨o, 0, none⟩), .int .i64 rma, .int .i64 kind] h fun v h' =>
   v = .int .i64 (l.length - (l.filter fun m => !decide (m.rma = rma ∧ m.kind = kind)).length) ∧ (∃ s', IsOb base h' o s' next (l.filter fun m => !decide (m.rma = rma ∧ m.kind = kind)) ∧ ∀ b ∈ blkOf s', b ∈ blkOf s) ∧ Fr h h' (o :: blkOf s) := by
 have hlt := hi.lt
 have hap := hi.apart
 have hge := hi.ge
 have hs1 : h.size ∉ blkOf s := fun hm => by have := (hi.own.lt _ hm).1; omega
 have hs2 : h.size + 1 ∉ blkOf s := fun hm => by have := (hi.own.lt _ hm).1; omega
 have hown := hi.own
 obtain ⟨A, c, rfl⟩ := hi.own.slice
 refine EN i85.eq_1 fun K hK => ?_
 (refine Xa ?_; try exact ⟨⟩)
 simp (disch := first | omega | assumption | (simp only [l_c, l_b, l_f, l_g, l_e, l_d, or_false, false_or, l_ab, not_or]; done) | (simp only [l_c, l_b, l_f, l_g, l_e, l_d, or_false, false_or, not_or]; omega)) only [go_sem, ↓wBk, ↓eA, ↓eB, ↓eS, sT, simprocAttr, rd1_blk hi.blk]
 have hle : (l.filter fun m => !decide (m.rma = rma ∧ m.kind = kind)).length ≤ l.length := List.length_filter_le _ _
 refine cI (deleteFunc_ok (sz := 6) (T := 44) (p := fun m : Msg => decide (m.rma = rma ∧ m.kind = kind)) i128.2 i143.2 enc_len (by omega) enc_plain rfl zplain hi.own.push.push (by omega) (dropAsk rma kind (k1 := h.size) (k2 := h.size + 1) ?_ ?_ ?_ ?_ hs1 hs2)) ?_
 ·(refine Xa ?_; try exact ⟨⟩)
 ·(refine Xa ?_; try exact ⟨⟩)
 ·simp; omega
 ·simp
 rintro v h1 ⟨ho1, hf1, hb1⟩
 have hsz1 := hf1.size
 simp only [l_c] at hsz1
 obtain ⟨A', c', rfl⟩ := ho1.slice
 have hob : o ∉ blkOf (.slice A' (l.filter fun m => !decide (m.rma = rma ∧ m.kind = kind)).length c') := fun hm => hap (hb1 _ hm)
 (refine Xc @hf1.blk @hi.blk ?_; try exact ⟨⟩)
 refine hK _ _ ⟨rfl, ⟨_, ⟨?_, hge, ho1.set hob, hob⟩, hb1⟩, ?_⟩
 ·(refine Xa ?_; try exact ⟨⟩)
 ·(exact FRR)
theorem waitsOf_succ (rma : Int) (l : List Msg) (i : Nat) (hi : i < l.length) : waitsOf rma (l.take (i + 1)) = waitsOf rma (l.take i) + if l[i].rma = rma ∧ l[i].kind ≠ 1 then 1 else 0 := by
 unfold waitsOf
 rw [l_t hi, List.filter_append]
 by_cases h : l[i].rma = rma ∧ l[i].kind ≠ 1 <;> simp [List.filter_cons, h]
theorem waitsOf_le (rma : Int) (l : List Msg) : waitsOf rma l ≤ l.length := List.length_filter_le _ _
theorem Waits_ok (rma : Int) {base : Nat} {h : Heap} {o : Nat} {s : Value} {next : Int} {l : List Msg} (hi : IsOb base h o s next l) (hl : l.length < 1000000) :
  CallsH Tryz.prog 147 [.pointer (some ⟨o, 0, none⟩), .int .i64 rma] h fun v h' => v = .int .i64 (waitsOf rma l) ∧ Fr h h' [] := by
 have hlt := hi.lt
 have ha0 := hi.own
 obtain ⟨A, c, rfl⟩ := hi.own.slice
 have ha := (hi.own.arr enc_len).1
 refine EN i147.eq_1 fun K hK => ?_
 refine Xa ?_
 simp (disch := first | omega | assumption | (simp only [l_c, l_b, l_f, l_g, l_e, l_d, or_false, false_or, l_ab, not_or]; done) | (simp only [l_c, l_b, l_f, l_g, l_e, l_d, or_false, false_or, not_or]; omega)) only [go_sem, ↓wBk, ↓eA, ↓eB, ↓eS, sT, simprocAttr, rd1_blk hi.blk]
 refine lI (fun ρ h' => Fr h h' [] ∧ ρ 1 = .int .i64 rma ∧ ρ 13 = .slice A l.length c ∧ ρ 14 = .int .i64 l.length ∧ ∃ i : Nat, ρ 15 = .int .i64 i ∧ i ≤ l.length ∧ ρ 5 = .int .i64 (waitsOf rma (l.take i))) (fun ρ _ => l.length - (iv (ρ 15)).toNat) ?_ ?_
 ·refine Xa ?_
  exact ⟨Fr.refl _ _, 0, rfl, Nat.zero_le _, rfl⟩
 ·rintro ρ h' J hJ ⟨hf, e1, e13, e14, i, e15, hil, e5⟩
  have hszh := hf.size
  refine Xc e15 e14 ?_
  (generalize hg : dcd _ = bb; cases bb <;> (first | replace hg := of_dcd_false hg | replace hg := of_dcd_true hg) <;> (try simp (disch := first | omega | assumption | ((repeat' (first | exact Fr.refl _ _ | assumption | (refine Fr.via (by assumption) ?_ (by intro i hi hm; first | exact hm | exact l_l _ hm | exact absurd hm l_d | (simp only [l_e, l_y, l_d, or_false] at hm ⊢; omega))) | refine Fr.push ?_ _ | (refine Fr.setM ?_ ?_ _; · first | exact l_n | (simp only [l_e, true_or, or_true]; done)) | (refine Fr.setN ?_ ?_ _; · first | omega | (simp only [l_c, l_b]; omega)))); done) | (simp only [l_c, l_b, l_f, l_g, l_e, l_d, or_false, false_or, l_ab, not_or]; done) | (simp only [l_c, l_b, l_f, l_g, l_e, l_d, or_false, false_or, not_or]; omega)) only [go_sem, ↓wBk, ↓eA, ↓eB, ↓eS, sT, simprocAttr, e1, e13, e5]))
  ·have hi' : i = l.length := by omega
   subst hi'
   refine hK _ _ ⟨?_, hf⟩
   rw [l_aj]
  ·have hlt' : i < l.length := by omega
   obtain ⟨b, off, rfl, hr⟩ := (ha.fr hf (fun _ _ _ => by simp)).at hlt'
   have hle := waitsOf_le rma (l.take i)
   rw [l_ad] at hle
   have hsucc := waitsOf_succ rma l i hlt'
   refine Xf e1 e13 e15 hr @Msg.enc.eq_1 ?_
   (generalize hg : dcd _ = bb; cases bb <;> (first | replace hg := of_dcd_false hg | replace hg := of_dcd_true hg) <;> (try simp (disch := first | omega | assumption | ((repeat' (first | exact Fr.refl _ _ | assumption | (refine Fr.via (by assumption) ?_ (by intro i hi hm; first | exact hm | exact l_l _ hm | exact absurd hm l_d | (simp only [l_e, l_y, l_d, or_false] at hm ⊢; omega))) | refine Fr.push ?_ _ | (refine Fr.setM ?_ ?_ _; · first | exact l_n | (simp only [l_e, true_or, or_true]; done)) | (refine Fr.setN ?_ ?_ _; · first | omega | (simp only [l_c, l_b]; omega)))); done) | (simp only [l_c, l_b, l_f, l_g, l_e, l_d, or_false, false_or, l_ab, not_or]; done) | (simp only [l_c, l_b, l_f, l_g, l_e, l_d, or_false, false_or, not_or]; omega)) only [go_sem, ↓wBk, ↓eA, ↓eB, ↓eS, sT, simprocAttr, e1, e13, e14, e15, e5]))
   ·refine hJ _ _ ?_ ?_
    ·refine Xe e1 e13 e14 e5 ?_
     exact ⟨by (exact FRR), i + 1, rfl, by omega, by rw [hsucc, if_neg (by simp [hg])]; rfl⟩
    ·refine Xb e15 ?_
     omega
   ·have hg1 := hg
    (generalize hg : dcd _ = bb; cases bb <;> (first | replace hg := of_dcd_false hg | replace hg := of_dcd_true hg) <;> (try simp (disch := first | omega | assumption | ((repeat' (first | exact Fr.refl _ _ | assumption | (refine Fr.via (by assumption) ?_ (by intro i hi hm; first | exact hm | exact l_l _ hm | exact absurd hm l_d | (simp only [l_e, l_y, l_d, or_false] at hm ⊢; omega))) | refine Fr.push ?_ _ | (refine Fr.setM ?_ ?_ _; · first | exact l_n | (simp only [l_e, true_or, or_true]; done)) | (refine Fr.setN ?_ ?_ _; · first | omega | (simp only [l_c, l_b]; omega)))); done) | (simp only [l_c, l_b, l_f, l_g, l_e, l_d, or_false, false_or, l_ab, not_or]; done) | (simp only [l_c, l_b, l_f, l_g, l_e, l_d, or_false, false_or, not_or]; omega)) only [go_sem, ↓wBk, ↓eA, ↓eB, ↓eS, sT, simprocAttr, e1, e13, e14, e15, e5]))
    ·refine hJ _ _ ?_ ?_
     ·refine Xe e1 e13 e14 e5 ?_
      exact ⟨by (exact FRR), i + 1, rfl, by omega, by rw [hsucc, if_pos ⟨hg1, hg⟩]; rfl⟩
     ·refine Xb e15 ?_
      omega
    ·refine hJ _ _ ?_ ?_
     ·refine Xe e1 e13 e14 e5 ?_
      exact ⟨by (exact FRR), i + 1, rfl, by omega, by rw [hsucc, if_neg (by simp [hg])]; rfl⟩
     ·refine Xb e15 ?_
      omega
def Msg.bump (now : Int) (m : Msg) : Msg := ⟨m.key, m.kind, m.rma, m.value, m.tries + 1, now + wait (m.tries + 1)⟩
def said1 (now : Int) (m : Msg) : List Msg := if m.due > now then [] else if m.kind = 1 ∧ m.tries ≥ 5 then [] else [m.bump now]
def given1 (now : Int) (m : Msg) : List Msg := if m.due > now then [] else if m.kind = 1 ∧ m.tries ≥ 5 then [m] else []
def left1 (now : Int) (m : Msg) : List Msg := if m.due > now then [m] else if m.kind = 1 ∧ m.tries ≥ 5 then [] else [m.bump now]
def saidOf (now : Int) (l : List Msg) : List Msg := l.flatMap (said1 now)
def givenOf (now : Int) (l : List Msg) : List Msg := l.flatMap (given1 now)
def leftOf (now : Int) (l : List Msg) : List Msg := l.flatMap (left1 now)
theorem flatMap_succ {α β : Type} (f : α → List β) (l : List α) (i : Nat) (hi : i < l.length) : (l.take (i + 1)).flatMap f = (l.take i).flatMap f ++ f l[i] := by
 rw [l_t hi, List.flatMap_append]; simp
theorem flatMap_le {α β : Type} (f : α → List β) (hf : ∀ x, (f x).length ≤ 1) : ∀ l : List α, (l.flatMap f).length ≤ l.length
 | [] => Nat.le_refl _
 | x :: l => by have := hf x; have := flatMap_le f hf l; simp only [List.flatMap_cons, l_m, l_f]; omega
theorem said1_le (now : Int) (m : Msg) : (said1 now m).length ≤ 1 := by unfold said1; (repeat' split) <;> simp
theorem given1_le (now : Int) (m : Msg) : (given1 now m).length ≤ 1 := by unfold given1; (repeat' split) <;> simp
theorem left1_le (now : Int) (m : Msg) : (left1 now m).length ≤ 1 := by unfold left1; (repeat' split) <;> simp
theorem wait_le (t : Int) : 0 ≤ wait t ∧ wait t ≤ 8 := by unfold wait; (repeat' split) <;> omega
structure Tri (T base : Nat) (h : Heap) (a b c : Value) (x y z : List Msg) : Prop where
 oa : Own Msg.enc 6 T base h a x
 ob : Own Msg.enc 6 T base h b y
 oc : Own Msg.enc 6 T base h c z
 ab : ∀ i ∈ blkOf a, i ∉ blkOf b
 ac : ∀ i ∈ blkOf a, i ∉ blkOf c
 bc : ∀ i ∈ blkOf b, i ∉ blkOf c
theorem Tri.set {T base : Nat} {h : Heap} {a b c : Value} {x y z : List Msg} (t : Tri T base h a b c x y z) {k : Nat} {o : Obj} (hk : k ∉ blkOf a ∧ k ∉ blkOf b ∧ k ∉ blkOf c) : Tri T base (h.setIfInBounds k o) a b c x y z :=
 ⟨t.oa.set hk.1, t.ob.set hk.2.1, t.oc.set hk.2.2, t.ab, t.ac, t.bc⟩
theorem Tri.push {T base : Nat} {h : Heap} {a b c : Value} {x y z : List Msg} (t : Tri T base h a b c x y z) {o : Obj} : Tri T base (h.push o) a b c x y z :=
 ⟨t.oa.push, t.ob.push, t.oc.push, t.ab, t.ac, t.bc⟩
theorem Tri.new {T base : Nat} {h : Heap} {a b c : Value} {x y z : List Msg} (t : Tri T base h a b c x y z) {k : Nat} (hk : h.size ≤ k) : k ∉ blkOf a ∧ k ∉ blkOf b ∧ k ∉ blkOf c :=
 ⟨fun hm => by have := (t.oa.lt _ hm).1; omega, fun hm => by have := (t.ob.lt _ hm).1; omega, fun hm => by have := (t.oc.lt _ hm).1; omega⟩
theorem Tri.appA {T base : Nat} {h h' : Heap} {a b c a' : Value} {x y z x' : List Msg} (t : Tri T base h a b c x y z) (ho : Own Msg.enc 6 T base h' a' x') (hf : Fr h h' (blkOf a)) (hb : ∀ i ∈ blkOf a', i ∈ blkOf a ∨ h.size ≤ i) : Tri T base h' a' b c x' y z :=
 ⟨ho, t.ob.fr hf (fun i hi ha => t.ab i ha hi), t.oc.fr hf (fun i hi ha => t.ac i ha hi),
  fun i hi h2 => (hb i hi).elim (fun h1 => t.ab i h1 h2) (fun h1 => (t.new h1).2.1 h2),
  fun i hi h2 => (hb i hi).elim (fun h1 => t.ac i h1 h2) (fun h1 => (t.new h1).2.2 h2), t.bc⟩
theorem Tri.appB {T base : Nat} {h h' : Heap} {a b c b' : Value} {x y z y' : List Msg} (t : Tri T base h a b c x y z) (ho : Own Msg.enc 6 T base h' b' y') (hf : Fr h h' (blkOf b)) (hb : ∀ i ∈ blkOf b', i ∈ blkOf b ∨ h.size ≤ i) : Tri T base h' a b' c x y' z :=
 ⟨t.oa.fr hf (fun i hi hb => t.ab i hi hb), ho, t.oc.fr hf (fun i hi h2 => t.bc i h2 hi),
  fun i h2 hi => (hb i hi).elim (fun h1 => t.ab i h2 h1) (fun h1 => (t.new h1).1 h2), t.ac,
  fun i hi h2 => (hb i hi).elim (fun h1 => t.bc i h1 h2) (fun h1 => (t.new h1).2.2 h2)⟩
theorem Tri.appC {T base : Nat} {h h' : Heap} {a b c c' : Value} {x y z z' : List Msg} (t : Tri T base h a b c x y z) (ho : Own Msg.enc 6 T base h' c' z') (hf : Fr h h' (blkOf c)) (hb : ∀ i ∈ blkOf c', i ∈ blkOf c ∨ h.size ≤ i) : Tri T base h' a b c' x y z' :=
 ⟨t.oa.fr hf (fun i hi hc => t.ac i hi hc), t.ob.fr hf (fun i hi hc => t.bc i hi hc), ho, t.ab,
  fun i h2 hi => (hb i hi).elim (fun h1 => t.ac i h2 h1) (fun h1 => (t.new h1).1 h2),
  fun i h2 hi => (hb i hi).elim (fun h1 => t.bc i h2 h1) (fun h1 => (t.new h1).2.1 h2)⟩
theorem fr_new {h h' h'' : Heap} {M : List Nat} (hf : Fr h h' []) (hf' : Fr h' h'' M) (hm : ∀ b ∈ M, h.size ≤ b) : Fr h h'' [] := by
 refine ⟨Nat.le_trans hf.size hf'.size, fun b hb _ => ?_⟩
 rw [hf'.same b (Nat.lt_of_lt_of_le hb hf.size) (fun hb' => by have := hm b hb'; omega), hf.same b hb (by simp)]
set_option maxHeartbeats 2000000 in
theorem Again_tri (now : Int) {base : Nat} {h : Heap} {o : Nat} {s : Value} {next : Int} {l : List Msg} (hi : IsOb base h o s next l) (hl : l.length < 1000000)
  (hnow : -4398046511104 ≤ now ∧ now ≤ 4398046511104) (ht : ∀ m ∈ l, 0 ≤ m.tries ∧ m.tries < 1000000) :
  CallsH Tryz.prog 96 [.pointer (some ⟨o, 0, none⟩), .int .i64 now] h fun v h' => ∃ s1 s2 s3, v = .tuple #[s1, s2] ∧ IsOb base h' o s3 next (leftOf now l) ∧
   Own Msg.enc 6 44 h.size h' s1 (saidOf now l) ∧ Own Msg.enc 6 44 h.size h' s2 (givenOf now l) ∧ Fr h h' [o] ∧ (∀ b ∈ blkOf s3, h.size ≤ b) ∧ (∀ i ∈ blkOf s1, i ∉ blkOf s2) ∧ (∀ i ∈ blkOf s1, i ∉ blkOf s3) ∧ ∀ i ∈ blkOf s2, i ∉ blkOf s3 := by
 have hlt := hi.lt
 have hge := hi.ge
 obtain ⟨A, c, rfl⟩ := hi.own.slice
 have ha := (hi.own.arr enc_len).1
 refine EN i96.eq_1 fun K hK => ?_
 (refine Xa ?_; try exact ⟨⟩)
 simp (disch := first | omega | assumption | (simp only [l_c, l_b, l_f, l_g, l_e, l_d, or_false, false_or, l_ab, not_or]; done) | (simp only [l_c, l_b, l_f, l_g, l_e, l_d, or_false, false_or, not_or]; omega)) only [go_sem, ↓wBk, ↓eA, ↓eB, ↓eS, sT, simprocAttr, rd1_blk hi.blk]
 refine lI (fun ρ h' => Fr h h' [] ∧ ρ 0 = .pointer (some ⟨o, 0, none⟩) ∧ ρ 1 = .int .i64 now ∧ ρ 16 = .slice A l.length c ∧ ρ 17 = .int .i64 l.length ∧ ∃ i : Nat, ρ 18 = .int .i64 i ∧ i ≤ l.length ∧
  Tri 44 h.size h' (ρ 6) (ρ 7) (ρ 8) (saidOf now (l.take i)) (givenOf now (l.take i)) (leftOf now (l.take i))) (fun ρ _ => l.length - (iv (ρ 18)).toNat) ?_ ?_
 ·(refine Xa ?_; try exact ⟨⟩)
  exact ⟨Fr.refl _ _, 0, rfl, Nat.zero_le _, Own.nil, Own.nil, Own.nil, by simp [blkOf], by simp [blkOf], by simp [blkOf]⟩
 ·rintro ρ h' J hJ ⟨hf, e0, e1, e16, e17, i, e18, hil, tri⟩
  have hszh := hf.size
  have hblk : blk h' o = _ := (hf.blk hlt (by simp)).trans hi.blk
  have hlt' : o < h'.size := blk_lt hblk
  (refine Xc e18 e17 ?_; try exact ⟨⟩)
  (generalize hg : dcd _ = bb; cases bb <;> (first | replace hg := of_dcd_false hg | replace hg := of_dcd_true hg) <;> (try simp (disch := first | omega | assumption | ((repeat' (first | exact Fr.refl _ _ | assumption | (refine Fr.via (by assumption) ?_ (by intro i hi hm; first | exact hm | exact l_l _ hm | exact absurd hm l_d | (simp only [l_e, l_y, l_d, or_false] at hm ⊢; omega))) | refine Fr.push ?_ _ | (refine Fr.setM ?_ ?_ _; · first | exact l_n | (simp only [l_e, true_or, or_true]; done)) | (refine Fr.setN ?_ ?_ _; · first | omega | (simp only [l_c, l_b]; omega)))); done) | (simp only [l_c, l_b, l_f, l_g, l_e, l_d, or_false, false_or, l_ab, not_or]; done) | (simp only [l_c, l_b, l_f, l_g, l_e, l_d, or_false, false_or, not_or]; omega)) only [go_sem, ↓wBk, ↓eA, ↓eB, ↓eS, sT, simprocAttr, e0, e1, e16]))
  ·have hi' : i = l.length := by omega
   subst hi'
   simp only [l_aj] at tri
   have h8 : ∀ b ∈ blkOf (ρ 8), h.size ≤ b := fun b hb => (tri.oc.lt b hb).2
   have ho : o ∉ blkOf (ρ 6) ∧ o ∉ blkOf (ρ 7) ∧ o ∉ blkOf (ρ 8) := ⟨fun hm => by have := (tri.oa.lt _ hm).2; omega, fun hm => by have := (tri.ob.lt _ hm).2; omega, fun hm => by have := (tri.oc.lt _ hm).2; omega⟩
   obtain ⟨A8, c8, e8⟩ := tri.oc.slice
   (refine Xc e8 hblk ?_; try exact ⟨⟩)
   have tri' := tri.set (o := .cells #[.int .i64 next, ρ 8] 118 (0, 0)) ho
   rw [e8] at tri'
   refine hK _ _ ⟨_, _, _, rfl, ⟨?_, hge, tri'.oc.rebase fun b hb => ?_, ?_⟩, tri'.oa, tri'.ob, by (exact FRR), ?_, tri'.ab, tri'.ac, tri'.bc⟩
   ·(refine Xa ?_; try exact ⟨⟩)
   ·have := h8 b (e8 ▸ hb); omega
   ·exact e8 ▸ ho.2.2
   ·exact e8 ▸ h8
  ·have hil' : i < l.length := by omega
   obtain ⟨b, off, rfl, hr⟩ := (ha.fr hf (fun _ _ _ => by simp)).at hil'
   have htr := ht l[i] (l_v hil')
   (refine Xf e1 e16 e18 hr @Msg.enc.eq_1 ?_; try exact ⟨⟩)
   have s1 : saidOf now (l.take (i + 1)) = saidOf now (l.take i) ++ said1 now l[i] := flatMap_succ _ l i hil'
   have s2 : givenOf now (l.take (i + 1)) = givenOf now (l.take i) ++ given1 now l[i] := flatMap_succ _ l i hil'
   have s3 : leftOf now (l.take (i + 1)) = leftOf now (l.take i) ++ left1 now l[i] := flatMap_succ _ l i hil'
   have n1 : (saidOf now (l.take i)).length ≤ _ := flatMap_le (said1 now) (said1_le now) (l.take i)
   have n2 : (givenOf now (l.take i)).length ≤ _ := flatMap_le (given1 now) (given1_le now) (l.take i)
   have n3 : (leftOf now (l.take i)).length ≤ _ := flatMap_le (left1 now) (left1_le now) (l.take i)
   rw [l_ad] at n1 n2 n3
   refine cD (fun hg1 => ?_) (fun hg1 => ?_)
   ·have g1 : said1 now l[i] = [] := by simp [said1, hg1]
    have g2 : given1 now l[i] = [] := by simp [given1, hg1]
    have g3 : left1 now l[i] = [l[i]] := by simp [left1, hg1]
    rw [g1, l_am] at s1
    rw [g2, l_am] at s2
    rw [g3] at s3
    (refine Xb @Msg.enc.eq_1 ?_; try exact ⟨⟩)
    refine append_one (x := l[i]) enc_len (by omega) enc_plain rfl rfl (by simp) (tri.push.set (tri.new (Nat.le_refl _))).oc (by simp; omega) (by omega) (by omega) ?_
    intro v' h'' ho' hf' hb
    have tri' := Tri.appC (tri.push.set (tri.new (Nat.le_refl _))) ho' hf' hb
    have hsz := hf'.size
    simp only [l_c, l_b] at hsz
    (refine Xf e0 e1 e16 e17 e18 ?_; try exact ⟨⟩)
    refine hJ _ _ ?_ ?_
    ·(refine Xf e0 e1 e16 e17 e18 ?_; try exact ⟨⟩)
     refine ⟨?_, i + 1, rfl, by omega, s1 ▸ s2 ▸ s3 ▸ tri'⟩
     exact fr_new (h' := ((h'.push _).setIfInBounds _ _)) (by (exact FRR)) hf' (fun b hb => (tri.oc.lt b hb).2)
    ·(refine Xb e18 ?_; try exact ⟨⟩)
     omega
   ·(refine Xb @Msg.enc.eq_1 ?_; try exact ⟨⟩)
    refine gate_dec (fun hk => ?_) (fun hk => ?_)
    ·(refine Xb @Msg.enc.eq_1 ?_; try exact ⟨⟩)
     refine cD (fun h5 => ?_) (fun h5 => ?_)
     ·have g1 : said1 now l[i] = [] := by simp [said1, hg1, hk, h5]
      have g2 : given1 now l[i] = [l[i]] := by simp [given1, hg1, hk, h5]
      have g3 : left1 now l[i] = [] := by simp [left1, hg1, hk, h5]
      rw [g1, l_am] at s1
      rw [g2] at s2
      rw [g3, l_am] at s3
      (refine Xb @Msg.enc.eq_1 ?_; try exact ⟨⟩)
      refine append_one (x := l[i]) enc_len (by omega) enc_plain rfl rfl (by simp) (tri.push.set (tri.new (Nat.le_refl _))).ob (by simp; omega) (by omega) (by omega) ?_
      intro v' h'' ho' hf' hb
      have tri' := Tri.appB (tri.push.set (tri.new (Nat.le_refl _))) ho' hf' hb
      have hsz := hf'.size
      simp only [l_c, l_b] at hsz
      (refine Xf e0 e1 e16 e17 e18 ?_; try exact ⟨⟩)
      refine hJ _ _ ?_ ?_
      ·(refine Xf e0 e1 e16 e17 e18 ?_; try exact ⟨⟩)
       refine ⟨?_, i + 1, rfl, by omega, s1 ▸ s2 ▸ s3 ▸ tri'⟩
       exact fr_new (h' := ((h'.push _).setIfInBounds _ _)) (by (exact FRR)) hf' (fun b hb => (tri.ob.lt b hb).2)
      ·(refine Xb e18 ?_; try exact ⟨⟩)
       omega
     ·have hn : ¬ (l[i].kind = 1 ∧ l[i].tries ≥ 5) := fun hh => h5 (by omega)
      have g1 : said1 now l[i] = [l[i].bump now] := by simp [said1, hg1, hn]
      have g2 : given1 now l[i] = [] := by simp [given1, hg1, hn]
      have g3 : left1 now l[i] = [l[i].bump now] := by simp [left1, hg1, hn]
      rw [g1] at s1
      rw [g2, l_am] at s2
      rw [g3] at s3
      have hw := wait_le (l[i].tries + 1)
      (refine Xc @Msg.enc.eq_1 e1 ?_; try exact ⟨⟩)
      refine cI (Wait_ok _ _ (by omega)) ?_
      rintro _ _ ⟨rfl, rfl⟩
      (refine Xc @Msg.enc.eq_1 e1 ?_; try exact ⟨⟩)
      have nw := tri.new (Nat.le_refl _)
      refine append_one (x := l[i].bump now) enc_len (by omega) enc_plain rfl rfl (by simp) (((tri.push.set nw).set nw).set nw).oa (by simp; omega) (by omega) (by omega) ?_
      intro v' h2 ho' hf' hb
      have tri' := Tri.appA (((tri.push.set nw).set nw).set nw) ho' hf' hb
      have hsz := hf'.size
      simp only [l_c, l_b] at hsz
      have hf2 : Fr h h2 [] := fr_new (h' := ((((h'.push _).setIfInBounds _ _).setIfInBounds _ _).setIfInBounds _ _)) (by (exact FRR)) hf' (fun b hb => (tri.oa.lt b hb).2)
      have hb2 : blk h2 h'.size = some ((l[i].bump now).enc, 44, (0, 0)) := by
       rw [hf'.blk (by simp) nw.1]
       (refine Xc @Msg.enc.eq_1 @Msg.bump.eq_1 ?_; try exact ⟨⟩)
      have hr2 : rdN h2 h'.size 0 6 = some (l[i].bump now).enc := by rw [rdN_blk hb2 (by simp [enc_len])]; rfl
      clear hf'
      (refine Xi e0 e1 e16 e17 e18 hr2 @Msg.enc.eq_1 @Msg.bump.eq_1 ?_; try exact ⟨⟩)
      refine append_one (bytes := 48) (x := l[i].bump now) enc_len (by omega) enc_plain rfl rfl rfl tri'.oc (by omega) (by omega) (by omega) ?_
      intro v'' h3 ho3 hf3 hb3
      have tri3 := Tri.appC tri' ho3 hf3 hb3
      have hsz3 := hf3.size
      (refine Xf e0 e1 e16 e17 e18 ?_; try exact ⟨⟩)
      refine hJ _ _ ?_ ?_
      ·(refine Xf e0 e1 e16 e17 e18 ?_; try exact ⟨⟩)
       exact ⟨fr_new hf2 hf3 (fun b hb => (tri'.oc.lt b hb).2), i + 1, rfl, by omega, s1 ▸ s2 ▸ s3 ▸ tri3⟩
      ·(refine Xb e18 ?_; try exact ⟨⟩)
       omega
    ·have hn : ¬ (l[i].kind = 1 ∧ l[i].tries ≥ 5) := fun hh => hk hh.1
     have g1 : said1 now l[i] = [l[i].bump now] := by simp [said1, hg1, hn]
     have g2 : given1 now l[i] = [] := by simp [given1, hg1, hn]
     have g3 : left1 now l[i] = [l[i].bump now] := by simp [left1, hg1, hn]
     rw [g1] at s1
     rw [g2, l_am] at s2
     rw [g3] at s3
     have hw := wait_le (l[i].tries + 1)
     (refine Xc @Msg.enc.eq_1 e1 ?_; try exact ⟨⟩)
     refine cI (Wait_ok _ _ (by omega)) ?_
     rintro _ _ ⟨rfl, rfl⟩
     (refine Xc @Msg.enc.eq_1 e1 ?_; try exact ⟨⟩)
     have nw := tri.new (Nat.le_refl _)
     refine append_one (x := l[i].bump now) enc_len (by omega) enc_plain rfl rfl (by simp) (((tri.push.set nw).set nw).set nw).oa (by simp; omega) (by omega) (by omega) ?_
     intro v' h2 ho' hf' hb
     have tri' := Tri.appA (((tri.push.set nw).set nw).set nw) ho' hf' hb
     have hsz := hf'.size
     simp only [l_c, l_b] at hsz
     have hf2 : Fr h h2 [] := fr_new (h' := ((((h'.push _).setIfInBounds _ _).setIfInBounds _ _).setIfInBounds _ _)) (by (exact FRR)) hf' (fun b hb => (tri.oa.lt b hb).2)
     have hb2 : blk h2 h'.size = some ((l[i].bump now).enc, 44, (0, 0)) := by
      rw [hf'.blk (by simp) nw.1]
      (refine Xc @Msg.enc.eq_1 @Msg.bump.eq_1 ?_; try exact ⟨⟩)
     have hr2 : rdN h2 h'.size 0 6 = some (l[i].bump now).enc := by rw [rdN_blk hb2 (by simp [enc_len])]; rfl
     clear hf'
     (refine Xi e0 e1 e16 e17 e18 hr2 @Msg.enc.eq_1 @Msg.bump.eq_1 ?_; try exact ⟨⟩)
     refine append_one (bytes := 48) (x := l[i].bump now) enc_len (by omega) enc_plain rfl rfl rfl tri'.oc (by omega) (by omega) (by omega) ?_
     intro v'' h3 ho3 hf3 hb3
     have tri3 := Tri.appC tri' ho3 hf3 hb3
     have hsz3 := hf3.size
     (refine Xf e0 e1 e16 e17 e18 ?_; try exact ⟨⟩)
     refine hJ _ _ ?_ ?_
     ·(refine Xf e0 e1 e16 e17 e18 ?_; try exact ⟨⟩)
      exact ⟨fr_new hf2 hf3 (fun b hb => (tri'.oc.lt b hb).2), i + 1, rfl, by omega, s1 ▸ s2 ▸ s3 ▸ tri3⟩
     ·(refine Xb e18 ?_; try exact ⟨⟩)
      omega
end Go.Proofs.YtcgbhcgfdcfmaaaGreat.MX
