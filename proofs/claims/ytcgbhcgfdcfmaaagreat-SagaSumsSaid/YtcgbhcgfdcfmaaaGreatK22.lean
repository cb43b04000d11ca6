import Derived.Test.YtcgbhcgfdcfmaaaGreatK21
import Derived.Test.YtcgbhcgfdcfmaaaGreatK10
import Derived.Test.YtcgbhcgfdcfmaaaGreatK11
import Derived.Test.YtcgbhcgfdcfmaaaGreatK16
import Derived.Test.YtcgbhcgfdcfmaaaGreatK17
import Derived.Test.YtcgbhcgfdcfmaaaGreatK14
import Derived.Test.YtcgbhcgfdcfmaaaGreatK19
import Derived.Test.YtcgbhcgfdcfmaaaGreatK20
namespace Go.Proofs.YtcgbhcgfdcfmaaaGreat.MX
open Go Go.Proofs
set_option linter.unusedSimpArgs false
set_option linter.unusedVariables false
def Msg.bump (now : Int) (m : Msg) : Msg := ⟨m.key, m.kind, m.rma, m.value, m.tries + 1, now + a7I (m.tries + 1)⟩
def W7 (now : Int) (m : Msg) : List Msg := if m.due > now then [] else if m.kind = 1 ∧ m.tries ≥ 5 then [] else [m.bump now]
def J4 (now : Int) (m : Msg) : List Msg := if m.due > now then [] else if m.kind = 1 ∧ m.tries ≥ 5 then [m] else []
def R6 (now : Int) (m : Msg) : List Msg := if m.due > now then [m] else if m.kind = 1 ∧ m.tries ≥ 5 then [] else [m.bump now]
def I9 (now : Int) (l : List Msg) : List Msg := l.flatMap (W7 now)
def A6 (now : Int) (l : List Msg) : List Msg := l.flatMap (J4 now)
def E5 (now : Int) (l : List Msg) : List Msg := l.flatMap (R6 now)
theorem a0m {α β : Type} (f : α → List β) (l : List α) (i : Nat) (hi : i < l.length) : (l.take (i + 1)).flatMap f = (l.take i).flatMap f ++ f l[i] := by
 rw [l_t hi, a0V]; simp
theorem K5 {α β : Type} (f : α → List β) (hf : ∀ x, (f x).length ≤ 1) : ∀ l : List α, (l.flatMap f).length ≤ l.length
 | [] => v8 _
 | x :: l => by have := hf x; have := K5 f hf l; simp only [T0, l_m, l_f]; omega
theorem a8g (now : Int) (m : Msg) : (W7 now m).length ≤ 1 := by unfold W7; (repeat' split) <;> simp
theorem a6X (now : Int) (m : Msg) : (J4 now m).length ≤ 1 := by unfold J4; (repeat' split) <;> simp
theorem a8e (now : Int) (m : Msg) : (R6 now m).length ≤ 1 := by unfold R6; (repeat' split) <;> simp
theorem b1o (t : Int) : 0 ≤ a7I t ∧ a7I t ≤ 8 := by unfold a7I; (repeat' split) <;> omega
structure Tri (T base : Nat) (h : c9) (a b c : Value) (x y z : List Msg) : Prop where
 oa : Own Msg.enc 6 T base h a x
 ob : Own Msg.enc 6 T base h b y
 oc : Own Msg.enc 6 T base h c z
 ab : ∀ i ∈ i0 a, i ∉ i0 b
 ac : ∀ i ∈ i0 a, i ∉ i0 c
 bc : ∀ i ∈ i0 b, i ∉ i0 c
theorem Tri.set {T base : Nat} {h : c9} {a b c : Value} {x y z : List Msg} (t : Tri T base h a b c x y z) {k : Nat} {o : Obj} (hk : k ∉ i0 a ∧ k ∉ i0 b ∧ k ∉ i0 c) : Tri T base (h.setIfInBounds k o) a b c x y z :=
 ⟨t.oa.set hk.1, t.ob.set hk.2.1, t.oc.set hk.2.2, t.ab, t.ac, t.bc⟩
theorem Tri.push {T base : Nat} {h : c9} {a b c : Value} {x y z : List Msg} (t : Tri T base h a b c x y z) {o : Obj} : Tri T base (h.push o) a b c x y z :=
 ⟨t.oa.push, t.ob.push, t.oc.push, t.ab, t.ac, t.bc⟩
theorem Tri.new {T base : Nat} {h : c9} {a b c : Value} {x y z : List Msg} (t : Tri T base h a b c x y z) {k : Nat} (hk : h.size ≤ k) : k ∉ i0 a ∧ k ∉ i0 b ∧ k ∉ i0 c :=
 ⟨fun hm => by have := (t.oa.lt _ hm).1; omega, fun hm => by have := (t.ob.lt _ hm).1; omega, fun hm => by have := (t.oc.lt _ hm).1; omega⟩
theorem Tri.appA {T base : Nat} {h h' : c9} {a b c a' : Value} {x y z x' : List Msg} (t : Tri T base h a b c x y z) (ho : Own Msg.enc 6 T base h' a' x') (hf : Fr h h' (i0 a)) (hb : ∀ i ∈ i0 a', i ∈ i0 a ∨ h.size ≤ i) : Tri T base h' a' b c x' y z :=
 ⟨ho, t.ob.fr hf (fun i hi ha => t.ab i ha hi), t.oc.fr hf (fun i hi ha => t.ac i ha hi),
  fun i hi h2 => (hb i hi).elim (fun h1 => t.ab i h1 h2) (fun h1 => (t.new h1).2.1 h2),
  fun i hi h2 => (hb i hi).elim (fun h1 => t.ac i h1 h2) (fun h1 => (t.new h1).2.2 h2), t.bc⟩
theorem Tri.appB {T base : Nat} {h h' : c9} {a b c b' : Value} {x y z y' : List Msg} (t : Tri T base h a b c x y z) (ho : Own Msg.enc 6 T base h' b' y') (hf : Fr h h' (i0 b)) (hb : ∀ i ∈ i0 b', i ∈ i0 b ∨ h.size ≤ i) : Tri T base h' a b' c x y' z :=
 ⟨t.oa.fr hf (fun i hi hb => t.ab i hi hb), ho, t.oc.fr hf (fun i hi h2 => t.bc i h2 hi),
  fun i h2 hi => (hb i hi).elim (fun h1 => t.ab i h2 h1) (fun h1 => (t.new h1).1 h2), t.ac,
  fun i hi h2 => (hb i hi).elim (fun h1 => t.bc i h1 h2) (fun h1 => (t.new h1).2.2 h2)⟩
theorem Tri.appC {T base : Nat} {h h' : c9} {a b c c' : Value} {x y z z' : List Msg} (t : Tri T base h a b c x y z) (ho : Own Msg.enc 6 T base h' c' z') (hf : Fr h h' (i0 c)) (hb : ∀ i ∈ i0 c', i ∈ i0 c ∨ h.size ≤ i) : Tri T base h' a b c' x y z' :=
 ⟨t.oa.fr hf (fun i hi hc => t.ac i hi hc), t.ob.fr hf (fun i hi hc => t.bc i hi hc), ho, t.ab,
  fun i h2 hi => (hb i hi).elim (fun h1 => t.ac i h2 h1) (fun h1 => (t.new h1).1 h2),
  fun i h2 hi => (hb i hi).elim (fun h1 => t.bc i h2 h1) (fun h1 => (t.new h1).2.1 h2)⟩
theorem a3x {h h' h'' : c9} {M : List Nat} (hf : Fr h h' []) (hf' : Fr h' h'' M) (hm : ∀ b ∈ M, h.size ≤ b) : Fr h h'' [] := by
 refine ⟨U3 hf.size hf'.size, fun b hb _ => ?_⟩
 rw [hf'.same b (Nat.lt_of_lt_of_le hb hf.size) (fun hb' => by have := hm b hb'; omega), hf.same b hb (by simp)]
set_option maxHeartbeats 2000000 in
theorem b2A (now : Int) {base : Nat} {h : c9} {o : Nat} {s : Value} {next : Int} {l : List Msg} (hi : Y0 base h o s next l) (hl : l.length < 1000000)
  (hnow : -4398046511104 ≤ now ∧ now ≤ 4398046511104) (ht : ∀ m ∈ l, 0 ≤ m.tries ∧ m.tries < 1000000) :
  d8 Tryz.prog 96 [.pointer (some ⟨o, 0, none⟩), .int .i64 now] h fun v h' => ∃ s1 s2 s3, v = .tuple #[s1, s2] ∧ Y0 base h' o s3 next (E5 now l) ∧
   Own Msg.enc 6 44 h.size h' s1 (I9 now l) ∧ Own Msg.enc 6 44 h.size h' s2 (A6 now l) ∧ Fr h h' [o] ∧ (∀ b ∈ i0 s3, h.size ≤ b) ∧ (∀ i ∈ i0 s1, i ∉ i0 s2) ∧ (∀ i ∈ i0 s1, i ∉ i0 s3) ∧ ∀ i ∈ i0 s2, i ∉ i0 s3 := by
 have hlt := hi.lt
 have hge := hi.ge
 obtain ⟨A, c, rfl⟩ := hi.own.slice
 have ha := (hi.own.arr enc_len).1
 refine EN i96.eq_1 fun K hK => ?_
 (refine Xa ?_; try exact ⟨⟩)
 simp (disch := first | omega | assumption | (simp only [l_c, l_b, l_f, l_g, l_e, l_d, or_false, false_or, O2, not_or]; done) | (simp only [l_c, l_b, l_f, l_g, l_e, l_d, or_false, false_or, not_or]; omega)) only [go_sem, ↓wBk, ↓eA, ↓eB, ↓eS, sT, simprocAttr, s9 hi.blk]
 refine lI (fun ρ h' => Fr h h' [] ∧ ρ 0 = .pointer (some ⟨o, 0, none⟩) ∧ ρ 1 = .int .i64 now ∧ ρ 16 = .slice A l.length c ∧ ρ 17 = .int .i64 l.length ∧ ∃ i : Nat, ρ 18 = .int .i64 i ∧ i ≤ l.length ∧
  Tri 44 h.size h' (ρ 6) (ρ 7) (ρ 8) (I9 now (l.take i)) (A6 now (l.take i)) (E5 now (l.take i))) (fun ρ _ => l.length - (iv (ρ 18)).toNat) ?_ ?_
 ·(refine Xa ?_; try exact ⟨⟩)
  exact ⟨Fr.refl _ _, 0, rfl, Nat.zero_le _, Own.nil, Own.nil, Own.nil, by simp [i0], by simp [i0], by simp [i0]⟩
 ·rintro ρ h' J hJ ⟨hf, e0, e1, e16, e17, i, e18, hil, tri⟩
  have hszh := hf.size
  have hblk : blk h' o = _ := (hf.blk hlt (by simp)).trans hi.blk
  have hlt' : o < h'.size := B6 hblk
  (refine Xc e18 e17 ?_; try exact ⟨⟩)
  (generalize hg : dcd _ = bb; cases bb <;> (first | replace hg := x9 hg | replace hg := o7 hg) <;> (try simp (disch := first | omega | assumption | ((repeat' (first | exact Fr.refl _ _ | assumption | (refine Fr.via (by assumption) ?_ (by intro i hi hm; first | exact hm | exact l_l _ hm | exact absurd hm l_d | (simp only [l_e, l_y, l_d, or_false] at hm ⊢; omega))) | refine Fr.push ?_ _ | (refine Fr.setM ?_ ?_ _; · first | exact l_n | (simp only [l_e, true_or, or_true]; done)) | (refine Fr.setN ?_ ?_ _; · first | omega | (simp only [l_c, l_b]; omega)))); done) | (simp only [l_c, l_b, l_f, l_g, l_e, l_d, or_false, false_or, O2, not_or]; done) | (simp only [l_c, l_b, l_f, l_g, l_e, l_d, or_false, false_or, not_or]; omega)) only [go_sem, ↓wBk, ↓eA, ↓eB, ↓eS, sT, simprocAttr, e0, e1, e16]))
  ·have hi' : i = l.length := by omega
   subst hi'
   simp only [E8] at tri
   have h8 : ∀ b ∈ i0 (ρ 8), h.size ≤ b := fun b hb => (tri.oc.lt b hb).2
   have ho : o ∉ i0 (ρ 6) ∧ o ∉ i0 (ρ 7) ∧ o ∉ i0 (ρ 8) := ⟨fun hm => by have := (tri.oa.lt _ hm).2; omega, fun hm => by have := (tri.ob.lt _ hm).2; omega, fun hm => by have := (tri.oc.lt _ hm).2; omega⟩
   obtain ⟨A8, c8, e8⟩ := tri.oc.slice
   (refine Xc e8 hblk ?_; try exact ⟨⟩)
   have tri' := tri.set (o := .cells #[.int .i64 next, ρ 8] 118 (0, 0)) ho
   rw [e8] at tri'
   refine hK _ _ ⟨_, _, _, rfl, ⟨?_, hge, tri'.oc.rebase fun b hb => ?_, ?_⟩, tri'.oa, tri'.ob, by (exact FRR), ?_, tri'.ab, tri'.ac, tri'.bc⟩
   ·(refine Xa ?_; try exact ⟨⟩)
   ·have := h8 b (e8 ▸ hb); omega
   ·exact e8 ▸ ho.2.2
   ·exact e8 ▸ h8
  ·have hil' : i < l.length := by omega
   obtain ⟨b, off, rfl, hr⟩ := (ha.fr hf (fun _ _ _ => by simp)).at hil'
   have htr := ht l[i] (l_v hil')
   (refine Xf e1 e16 e18 hr @Msg.enc.eq_1 ?_; try exact ⟨⟩)
   have s1 : I9 now (l.take (i + 1)) = I9 now (l.take i) ++ W7 now l[i] := a0m _ l i hil'
   have s2 : A6 now (l.take (i + 1)) = A6 now (l.take i) ++ J4 now l[i] := a0m _ l i hil'
   have s3 : E5 now (l.take (i + 1)) = E5 now (l.take i) ++ R6 now l[i] := a0m _ l i hil'
   have n1 : (I9 now (l.take i)).length ≤ _ := K5 (W7 now) (a8g now) (l.take i)
   have n2 : (A6 now (l.take i)).length ≤ _ := K5 (J4 now) (a6X now) (l.take i)
   have n3 : (E5 now (l.take i)).length ≤ _ := K5 (R6 now) (a8e now) (l.take i)
   rw [u6] at n1 n2 n3
   refine cD (fun hg1 => ?_) (fun hg1 => ?_)
   ·have g1 : W7 now l[i] = [] := by simp [W7, hg1]
    have g2 : J4 now l[i] = [] := by simp [J4, hg1]
    have g3 : R6 now l[i] = [l[i]] := by simp [R6, hg1]
    rw [g1, C4] at s1
    rw [g2, C4] at s2
    rw [g3] at s3
    (refine Xb @Msg.enc.eq_1 ?_; try exact ⟨⟩)
    refine K4 (x := l[i]) enc_len (by omega) enc_plain rfl rfl (by simp) (tri.push.set (tri.new (v8 _))).oc (by simp; omega) (by omega) (by omega) ?_
    intro v' h'' ho' hf' hb
    have tri' := Tri.appC (tri.push.set (tri.new (v8 _))) ho' hf' hb
    have hsz := hf'.size
    simp only [l_c, l_b] at hsz
    (refine Xf e0 e1 e16 e17 e18 ?_; try exact ⟨⟩)
    refine hJ _ _ ?_ ?_
    ·(refine Xf e0 e1 e16 e17 e18 ?_; try exact ⟨⟩)
     refine ⟨?_, i + 1, rfl, by omega, s1 ▸ s2 ▸ s3 ▸ tri'⟩
     exact a3x (h' := ((h'.push _).setIfInBounds _ _)) (by (exact FRR)) hf' (fun b hb => (tri.oc.lt b hb).2)
    ·(refine Xb e18 ?_; try exact ⟨⟩)
     omega
   ·(refine Xb @Msg.enc.eq_1 ?_; try exact ⟨⟩)
    refine a9p (fun hk => ?_) (fun hk => ?_)
    ·(refine Xb @Msg.enc.eq_1 ?_; try exact ⟨⟩)
     refine cD (fun h5 => ?_) (fun h5 => ?_)
     ·have g1 : W7 now l[i] = [] := by simp [W7, hg1, hk, h5]
      have g2 : J4 now l[i] = [l[i]] := by simp [J4, hg1, hk, h5]
      have g3 : R6 now l[i] = [] := by simp [R6, hg1, hk, h5]
      rw [g1, C4] at s1
      rw [g2] at s2
      rw [g3, C4] at s3
      (refine Xb @Msg.enc.eq_1 ?_; try exact ⟨⟩)
      refine K4 (x := l[i]) enc_len (by omega) enc_plain rfl rfl (by simp) (tri.push.set (tri.new (v8 _))).ob (by simp; omega) (by omega) (by omega) ?_
      intro v' h'' ho' hf' hb
      have tri' := Tri.appB (tri.push.set (tri.new (v8 _))) ho' hf' hb
      have hsz := hf'.size
      simp only [l_c, l_b] at hsz
      (refine Xf e0 e1 e16 e17 e18 ?_; try exact ⟨⟩)
      refine hJ _ _ ?_ ?_
      ·(refine Xf e0 e1 e16 e17 e18 ?_; try exact ⟨⟩)
       refine ⟨?_, i + 1, rfl, by omega, s1 ▸ s2 ▸ s3 ▸ tri'⟩
       exact a3x (h' := ((h'.push _).setIfInBounds _ _)) (by (exact FRR)) hf' (fun b hb => (tri.ob.lt b hb).2)
      ·(refine Xb e18 ?_; try exact ⟨⟩)
       omega
     ·have hn : ¬ (l[i].kind = 1 ∧ l[i].tries ≥ 5) := fun hh => h5 (by omega)
      have g1 : W7 now l[i] = [l[i].bump now] := by simp [W7, hg1, hn]
      have g2 : J4 now l[i] = [] := by simp [J4, hg1, hn]
      have g3 : R6 now l[i] = [l[i].bump now] := by simp [R6, hg1, hn]
      rw [g1] at s1
      rw [g2, C4] at s2
      rw [g3] at s3
      have hw := b1o (l[i].tries + 1)
      (refine Xc @Msg.enc.eq_1 e1 ?_; try exact ⟨⟩)
      refine cI (a7P _ _ (by omega)) ?_
      rintro _ _ ⟨rfl, rfl⟩
      (refine Xc @Msg.enc.eq_1 e1 ?_; try exact ⟨⟩)
      have nw := tri.new (v8 _)
      refine K4 (x := l[i].bump now) enc_len (by omega) enc_plain rfl rfl (by simp) (((tri.push.set nw).set nw).set nw).oa (by simp; omega) (by omega) (by omega) ?_
      intro v' h2 ho' hf' hb
      have tri' := Tri.appA (((tri.push.set nw).set nw).set nw) ho' hf' hb
      have hsz := hf'.size
      simp only [l_c, l_b] at hsz
      have hf2 : Fr h h2 [] := a3x (h' := ((((h'.push _).setIfInBounds _ _).setIfInBounds _ _).setIfInBounds _ _)) (by (exact FRR)) hf' (fun b hb => (tri.oa.lt b hb).2)
      have hb2 : blk h2 h'.size = some ((l[i].bump now).enc, 44, (0, 0)) := by
       rw [hf'.blk (by simp) nw.1]
       (refine Xc @Msg.enc.eq_1 @Msg.bump.eq_1 ?_; try exact ⟨⟩)
      have hr2 : rdN h2 h'.size 0 6 = some (l[i].bump now).enc := by rw [F4 hb2 (by simp [enc_len])]; rfl
      clear hf'
      (refine Xi e0 e1 e16 e17 e18 hr2 @Msg.enc.eq_1 @Msg.bump.eq_1 ?_; try exact ⟨⟩)
      refine K4 (bytes := 48) (x := l[i].bump now) enc_len (by omega) enc_plain rfl rfl rfl tri'.oc (by omega) (by omega) (by omega) ?_
      intro v'' h3 ho3 hf3 hb3
      have tri3 := Tri.appC tri' ho3 hf3 hb3
      have hsz3 := hf3.size
      (refine Xf e0 e1 e16 e17 e18 ?_; try exact ⟨⟩)
      refine hJ _ _ ?_ ?_
      ·(refine Xf e0 e1 e16 e17 e18 ?_; try exact ⟨⟩)
       exact ⟨a3x hf2 hf3 (fun b hb => (tri'.oc.lt b hb).2), i + 1, rfl, by omega, s1 ▸ s2 ▸ s3 ▸ tri3⟩
      ·(refine Xb e18 ?_; try exact ⟨⟩)
       omega
    ·have hn : ¬ (l[i].kind = 1 ∧ l[i].tries ≥ 5) := fun hh => hk hh.1
     have g1 : W7 now l[i] = [l[i].bump now] := by simp [W7, hg1, hn]
     have g2 : J4 now l[i] = [] := by simp [J4, hg1, hn]
     have g3 : R6 now l[i] = [l[i].bump now] := by simp [R6, hg1, hn]
     rw [g1] at s1
     rw [g2, C4] at s2
     rw [g3] at s3
     have hw := b1o (l[i].tries + 1)
     (refine Xc @Msg.enc.eq_1 e1 ?_; try exact ⟨⟩)
     refine cI (a7P _ _ (by omega)) ?_
     rintro _ _ ⟨rfl, rfl⟩
     (refine Xc @Msg.enc.eq_1 e1 ?_; try exact ⟨⟩)
     have nw := tri.new (v8 _)
     refine K4 (x := l[i].bump now) enc_len (by omega) enc_plain rfl rfl (by simp) (((tri.push.set nw).set nw).set nw).oa (by simp; omega) (by omega) (by omega) ?_
     intro v' h2 ho' hf' hb
     have tri' := Tri.appA (((tri.push.set nw).set nw).set nw) ho' hf' hb
     have hsz := hf'.size
     simp only [l_c, l_b] at hsz
     have hf2 : Fr h h2 [] := a3x (h' := ((((h'.push _).setIfInBounds _ _).setIfInBounds _ _).setIfInBounds _ _)) (by (exact FRR)) hf' (fun b hb => (tri.oa.lt b hb).2)
     have hb2 : blk h2 h'.size = some ((l[i].bump now).enc, 44, (0, 0)) := by
      rw [hf'.blk (by simp) nw.1]
      (refine Xc @Msg.enc.eq_1 @Msg.bump.eq_1 ?_; try exact ⟨⟩)
     have hr2 : rdN h2 h'.size 0 6 = some (l[i].bump now).enc := by rw [F4 hb2 (by simp [enc_len])]; rfl
     clear hf'
     (refine Xi e0 e1 e16 e17 e18 hr2 @Msg.enc.eq_1 @Msg.bump.eq_1 ?_; try exact ⟨⟩)
     refine K4 (bytes := 48) (x := l[i].bump now) enc_len (by omega) enc_plain rfl rfl rfl tri'.oc (by omega) (by omega) (by omega) ?_
     intro v'' h3 ho3 hf3 hb3
     have tri3 := Tri.appC tri' ho3 hf3 hb3
     have hsz3 := hf3.size
     (refine Xf e0 e1 e16 e17 e18 ?_; try exact ⟨⟩)
     refine hJ _ _ ?_ ?_
     ·(refine Xf e0 e1 e16 e17 e18 ?_; try exact ⟨⟩)
      exact ⟨a3x hf2 hf3 (fun b hb => (tri'.oc.lt b hb).2), i + 1, rfl, by omega, s1 ▸ s2 ▸ s3 ▸ tri3⟩
     ·(refine Xb e18 ?_; try exact ⟨⟩)
      omega
section
set_option maxHeartbeats 4000000
def A9 (o : Nat) (n : Int) (L : List Msg) : HP := exA fun s => a1U (f8 o [.int .i64 n, s] 118) (f9 Msg.enc 6 44 s L)
section
variable {h0 h : c9} {l : List HP} {o : Nat} {n : Int} {L : List Msg}
theorem St.obx : St h0 h (A9 o n L :: l) ↔ ∃ s, St h0 h (f8 o [.int .i64 n, s] 118 :: f9 Msg.enc 6 44 s L :: l) := by
 rw [A9, St.ex]
 exact exists_congr fun s => St.star
theorem St.isOb (S : St h0 h (A9 o n L :: l)) : ∃ s, Y0 h0.size h o s n L ∧ ∀ h' s' n' L', Y0 h0.size h' o s' n' L' → Fr h h' (o :: i0 s) → (∀ b ∈ i0 s', b ∈ i0 s ∨ h.size ≤ b) → St h0 h' (A9 o n' L' :: l) := by
 rw [A9, St.ex] at S
 obtain ⟨s, S⟩ := S
 obtain ⟨B, hp, hb, hk⟩ := S.hd
 obtain ⟨C, D, rfl, ⟨rfl, hc⟩, ⟨rfl, hd⟩, hdis⟩ := hp
 refine ⟨s, ⟨hc, hb o (by simp), hd.rebase (fun b hm => hb b (by simp [hm])), hdis o (by simp)⟩, fun h' s' n' L' i hf hs => ?_⟩
 refine hk h' (A9 o n' L') (o :: i0 s') hf ⟨s', [o], i0 s', rfl, ⟨rfl, i.blk⟩, ⟨rfl, i.own.rebase fun _ _ => Nat.zero_le _⟩, by simpa using i.apart⟩ ?_
 intro b hm
 rcases List.mem_cons.1 hm with rfl | hm
 ·exact .inl (by simp)
 ·rcases hs b hm with h1 | h1
  ·exact .inl (by simp [h1])
  ·exact .inr h1
theorem b8M (S : St h0 h l) : d8 Tryz.prog 29 [] h fun v h' => ∃ o, v = .pointer (some ⟨o, 0, none⟩) ∧ St h0 h' (A9 o 1 [] :: l) :=
 (b7b h).mono fun v h' ⟨o, e, hge, _, hb, hf⟩ => ⟨o, e, St.obx.2 ⟨_, (S.new (q := f8 o [.int .i64 1, .slice none 0 0] 118) hf (C := [o]) ⟨rfl, hb⟩ (by simpa using hge)).nilS.p1⟩⟩
theorem b8O (k r v d : Int) (S : St h0 h (A9 o n L :: l)) (hn : 0 ≤ n ∧ n < 9223372036854775807) (hd : -9223372036854775808 ≤ d ∧ d < 9223372036854775807) (hl : L.length < 1000000) :
  d8 Tryz.prog 125 [.pointer (some ⟨o, 0, none⟩), .int .i64 k, .int .i64 r, .int .i64 v, .int .i64 d] h fun u h' => u = .agg (Msg.mk n k r v 1 (d + 1)).enc.toArray ∧ St h0 h' (A9 o (n + 1) (L ++ [⟨n, k, r, v, 1, d + 1⟩]) :: l) := by
 obtain ⟨s, i, hk⟩ := S.isOb
 exact (b9J k r v d i hn hd hl).mono fun u h' ⟨e, s', i', hf, hb⟩ => ⟨e, hk _ _ _ _ i' hf hb⟩
theorem b3z (key : Int) (S : St h0 h (A9 o n L :: l)) (hl : L.length < 1000000) :
  d8 Tryz.prog 97 [.pointer (some ⟨o, 0, none⟩), .int .i64 key] h fun v h' =>
   (E9 (fun m : Msg => decide (m.key = key)) L 0 = -1 ∧ v = .tuple #[.agg Msg.zero.enc.toArray, .bool false] ∧ St h0 h' (A9 o n L :: l)) ∨
    ∃ i : Nat, ∃ hil : i < L.length, E9 (fun m : Msg => decide (m.key = key)) L 0 = i ∧ v = .tuple #[.agg L[i].enc.toArray, .bool true] ∧ St h0 h' (A9 o n (L.take i ++ L.drop (i + 1)) :: l) := by
 obtain ⟨s, i, hk⟩ := S.isOb
 refine (b5l key i hl).mono fun u h' ⟨hh, hf⟩ => ?_
 rcases hh with ⟨h1, rfl, i'⟩ | ⟨j, hj, h1, rfl, s', i', hb⟩
 ·exact .inl ⟨h1, rfl, hk _ _ _ _ i' hf fun b hb => .inl hb⟩
 ·exact .inr ⟨j, hj, h1, rfl, hk _ _ _ _ i' hf fun b hm => .inl (hb b hm)⟩
theorem b6S (rma kind : Int) (S : St h0 h (A9 o n L :: l)) (hl : L.length < 1000000) :
  d8 Tryz.prog 85 [.pointer (some ⟨o, 0, none⟩), .int .i64 rma, .int .i64 kind] h fun v h' => St h0 h' (A9 o n (L.filter fun m => !decide (m.rma = rma ∧ m.kind = kind)) :: l) := by
 obtain ⟨s, i, hk⟩ := S.isOb
 exact (b7S rma kind i hl).mono fun u h' ⟨_, ⟨s', i', hb⟩, hf⟩ => hk _ _ _ _ i' hf fun b hm => .inl (hb b hm)
theorem b3P (rma : Int) (S : St h0 h (A9 o n L :: l)) (hl : L.length < 1000000) :
  d8 Tryz.prog 147 [.pointer (some ⟨o, 0, none⟩), .int .i64 rma] h fun v h' => v = .int .i64 (n8 rma L) ∧ Fr h h' [] := by
 obtain ⟨s, i, hk⟩ := S.isOb
 exact b6e rma i hl
theorem a9d (S : St h0 h (A9 o n L :: l)) (hl : L.length < 1000000) :
  d8 Tryz.prog 34 [.pointer (some ⟨o, 0, none⟩)] h fun v h' => ∃ p, v = .pointer (some ⟨p, 0, none⟩) ∧ St h0 h' (A9 p n L :: A9 o n L :: l) := by
 obtain ⟨s, S⟩ := St.obx.1 S
 obtain ⟨A, c, rfl⟩ := S.p1.sl
 have hg0 := l9 (off := 0) S
 have hg1 := l9 (off := 1) S
 simp only [l_p, l_o] at hg0 hg1
 have hI : (fun h' => rd1 h' (.pointer (some ⟨o, 0, none⟩)) = some (.int .i64 n) ∧ rd1 h' (.pointer (some ⟨o, 1, none⟩)) = some (.slice A L.length c)) h := ⟨hg0, hg1⟩
 have rx : ∀ K t, n6 (fun h' => rd1 h' (.pointer (some ⟨o, 0, none⟩)) = some (.int .i64 n) ∧ rd1 h' (.pointer (some ⟨o, 1, none⟩)) = some (.slice A L.length c)) (fun h' => rd1 h' (.pointer (some ⟨o, 0, none⟩))) K t = K (.int .i64 n) := fun K t => rI (fun h' hh => hh.1) h hI
 have ry : ∀ K t, n6 (fun h' => rd1 h' (.pointer (some ⟨o, 0, none⟩)) = some (.int .i64 n) ∧ rd1 h' (.pointer (some ⟨o, 1, none⟩)) = some (.slice A L.length c)) (fun h' => rd1 h' (.pointer (some ⟨o, 1, none⟩))) K t = K (.slice A L.length c) := fun K t => rI (fun h' hh => hh.2) h hI
 refine EN i34.eq_1 fun K hK => Wa ?_
 refine dI (fun h' => rd1 h' (.pointer (some ⟨o, 0, none⟩)) = some (.int .i64 n) ∧ rd1 h' (.pointer (some ⟨o, 1, none⟩)) = some (.slice A L.length c)) hI ?_
 refine Wc rx ry ?_
 refine cI (a8d (S.p1.arr enc_len) rfl S.p1.own.nilA (by omega)) ?_
 rintro v h' ⟨ho, hf, _⟩
 have S := S.ownNew hf ho
 clear rx ry hI hg0 hg1
 obtain ⟨B, d, rfl⟩ := S.sl
 refine ⟨⟨l9 (off := 0) S.p1, l9 (off := 1) S.p1⟩, ?_⟩
 refine Wa ?_
 (revert S; (try clear F); refine AL fun p h S F => ?_)
 refine Wa ?_
 exact hK _ _ ⟨p, rfl, St.obx.2 ⟨_, (St.obx.2 ⟨_, S.p2.p3.p1⟩).p1.p2.p1⟩⟩
end
end
def rdV (n : Nat) (bs : List UInt8) (bad : Bool) : Int := if bad = true ∨ bs.length < n then 0 else num (bs.take n)
def rdB (n : Nat) (bs : List UInt8) (bad : Bool) : List UInt8 := if bad = true ∨ bs.length < n then [] else bs.drop n
def rdX (n : Nat) (bs : List UInt8) (bad : Bool) : Bool := bad || decide (bs.length < n)
theorem b0r (n : Nat) (bs : List UInt8) (bad : Bool) : 0 ≤ rdV n bs bad ∧ rdV n bs bad < 256 ^ n := by
 unfold rdV
 split
 ·exact ⟨Int.le_refl _, Int.pow_pos (by decide)⟩
 ·rename_i hb
  have h1 := b5M (bs.take n)
  have h2 : (bs.take n).length = n := by simp only [not_or] at hb; simp; omega
  rw [h2] at h1
  exact ⟨a4R _, h1⟩
def stp (n : Nat) (q : List UInt8 × Bool) : List UInt8 × Bool := (rdB n q.1 q.2, rdX n q.1 q.2)
def vl (n : Nat) (q : List UInt8 × Bool) : Int := rdV n q.1 q.2
def q1 (q : List UInt8 × Bool) := stp 2 q
def q2 (q : List UInt8 × Bool) := stp 1 (q1 q)
def q3 (q : List UInt8 × Bool) := stp 2 (q2 q)
def q4 (q : List UInt8 × Bool) := stp 2 (q3 q)
def q5 (q : List UInt8 × Bool) := stp 2 (q4 q)
def q6 (q : List UInt8 × Bool) := stp 2 (q5 q)
def q7 (q : List UInt8 × Bool) := stp 2 (q6 q)
def q8 (q : List UInt8 × Bool) := stp 1 (q7 q)
def q9 (q : List UInt8 × Bool) := stp 2 (q8 q)
def q10 (q : List UInt8 × Bool) := stp 1 (q9 q)
def Pol.fits (p : Pol) : Prop := (0 ≤ p.w ∧ p.w < 65536) ∧ (0 ≤ p.f0 ∧ p.f0 < 65536) ∧ (0 ≤ p.f1 ∧ p.f1 < 65536) ∧ (0 ≤ p.f2 ∧ p.f2 < 65536) ∧ (0 ≤ p.f3 ∧ p.f3 < 65536) ∧ (0 ≤ p.s0 ∧ p.s0 < 65536) ∧ (0 ≤ p.t0 ∧ p.t0 < 256) ∧ (0 ≤ p.s1 ∧ p.s1 < 65536) ∧ (0 ≤ p.t1 ∧ p.t1 < 256) ∧ (0 ≤ p.s2 ∧ p.s2 < 65536) ∧ (0 ≤ p.t2 ∧ p.t2 < 256) ∧ (0 ≤ p.s3 ∧ p.s3 < 65536) ∧ (0 ≤ p.t3 ∧ p.t3 < 256)
theorem b5f (l : List UInt8) (n : Nat) (h : l.length = n) : le n (num l) = l := by subst h; exact b4Q l
theorem Z9 {α : Type} {enc : α → List Value} {sz : Nat} {h : c9} {A : Option Addr} {xs : List α} (ha : Arr enc sz h A xs) : A = none → xs = [] := by
 rintro rfl
 cases xs with
 | nil => rfl
 | cons x xs => obtain ⟨b, off, hA, _⟩ := ha 0 (by simp); cases hA
section
set_option maxHeartbeats 4000000
structure KU where
 place : Int
 sku : Int
 recv : Bool
 grad : Bool
def KU.enc (x : KU) : List Value := [.int .i64 x.place, .int .i64 x.sku, .bool x.recv, .bool x.grad]
theorem KU.enc_len (x : KU) : x.enc.length = 4 := rfl
theorem KU.enc_plain (x : KU) : pC x.enc = true := rfl
def t6 (k : Nat) (K : List KU) : HP := exA fun s => a1U (f8 k [s] 108) (f9 KU.enc 4 110 s K)
def j1 (K : List KU) (n : Int) : Int := if 0 ≤ n then ((K[n.toNat]?).map KU.place).getD (-1) else -1
def P6 (sk at_ : List Int) : List KU := List.zipWith (fun s p => ⟨p, s, false, false⟩) sk at_
def okAt (at_ : List Int) : Prop := ∀ p ∈ at_, 0 ≤ p ∧ p < 9
section
variable {h0 h : c9} {l : List HP} {k : Nat} {K : List KU}
theorem St.stk : St h0 h (t6 k K :: l) ↔ ∃ s, St h0 h (f8 k [s] 108 :: f9 KU.enc 4 110 s K :: l) := by
 rw [t6, St.ex]
 exact exists_congr fun s => St.star
theorem a5u (n : Int) (S : St h0 h (t6 k K :: l)) : d8 Tryz.prog 40 [.pointer (some ⟨k, 0, none⟩), .int .i64 n] h fun v h' => v = .bool (dcd (0 ≤ n ∧ n < K.length)) ∧ h' = h := by
 obtain ⟨s, S⟩ := St.stk.1 S
 obtain ⟨A, c, rfl⟩ := S.p1.sl
 ((try clear F); have F := S.fx)
 by_cases h1 : 0 ≤ n
 ·by_cases h2 : n < K.length
  ·refine EN i40.eq_1 fun K hK => ?_
   refine Wd F h1 h2 ?_
   exact hK _ _ ⟨by rw [dT ⟨h1, h2⟩], rfl⟩
  ·refine EN i40.eq_1 fun K hK => ?_
   refine Wd F h1 h2 ?_
   exact hK _ _ ⟨by rw [dF fun h => h2 h.2], rfl⟩
 ·refine EN i40.eq_1 fun K hK => ?_
  refine Wc F h1 ?_
  exact hK _ _ ⟨by rw [dF fun h => h1 h.1], rfl⟩
theorem b2V (n : Int) (S : St h0 h (t6 k K :: l)) : d8 Tryz.prog 21 [.pointer (some ⟨k, 0, none⟩), .int .i64 n] h fun v h' => v = .int .i64 (j1 K n) ∧ h' = h := by
 by_cases h1 : 0 ≤ n ∧ n < K.length
 ·obtain ⟨i, rfl⟩ := l_u h1.1
  have hi : i < K.length := by omega
  refine EN i21.eq_1 fun K hK => Wa ?_
  refine cI (a5u _ S) ?_
  rintro _ _ ⟨rfl, rfl⟩
  rw [dT h1]
  obtain ⟨s, S⟩ := St.stk.1 S
  obtain ⟨A, c, rfl⟩ := S.p1.sl
  obtain ⟨b, rfl⟩ := S.p1.ownAt (by omega)
  have hp := E6 KU.enc_len S.p1 (i := i) (j := 0) hi (by omega)
  simp only [KU.enc, l_o, T2] at hp
  ((try clear F); have F := S.fx)
  refine Wc F hp ?_
  refine hK _ _ ⟨?_, rfl⟩
  rw [j1, if_pos h1.1, M7, l_r hi]
  rfl
 ·refine EN i21.eq_1 fun K hK => Wa ?_
  refine cI (a5u _ S) ?_
  rintro _ _ ⟨rfl, rfl⟩
  rw [dF h1]
  refine Wa ?_
  refine hK _ _ ⟨?_, rfl⟩
  rw [j1]
  split
  ·rw [a3b (by omega)]; rfl
  ·rfl
theorem b0M {A : Option Addr} {n c : Nat} {xs : List KU} (S : St h0 h l) (ha : Arr KU.enc 4 h A xs) (hn : n = xs.length) (hl : xs.length < 1000000000) :
  d8 Tryz.prog 57 [.slice A n c] h fun v h' => St h0 h' (f9 KU.enc 4 110 v xs :: l) :=
 (N4 (T := 110) (sz := 4) (bytes := 24) i57.2 KU.enc_len (by omega) KU.enc_plain rfl ha hn (Z9 ha) (by omega) (by omega)).mono fun v h' ⟨ho, hf, _⟩ => S.ownNew hf ho
theorem b2p (S : St h0 h (t6 k K :: l)) (hl : K.length < 1000000) : d8 Tryz.prog 32 [.pointer (some ⟨k, 0, none⟩)] h fun v h' => ∃ p, v = .pointer (some ⟨p, 0, none⟩) ∧ St h0 h' (t6 p K :: t6 k K :: l) := by
 obtain ⟨s, S⟩ := St.stk.1 S
 obtain ⟨A, c, rfl⟩ := S.p1.sl
 ((try clear F); have F := S.fx)
 refine EN i32.eq_1 fun K hK => ?_
 refine Wb F ?_
 refine cI (b0M S (S.p1.arr KU.enc_len) rfl (by omega)) ?_
 clear S F
 intro v h S
 obtain ⟨B, d, rfl⟩ := S.sl
 refine Wa ?_
 (revert S; (try clear F); refine AL fun p h S F => ?_)
 refine Wa ?_
 exact hK _ _ ⟨p, rfl, St.stk.2 ⟨_, (St.stk.2 ⟨_, S.p2.p3.p1⟩).p1.p2.p1⟩⟩
theorem b8K {A B : Option Addr} {c d : Nat} {sk at_ : List Int} (S : St h0 h l) (ha : ∀ h', St h0 h' l → Arr j4 1 h' A sk) (hb : ∀ h', St h0 h' l → Arr j4 1 h' B at_) (l1 : sk.length < 1000000) (l2 : at_.length < 1000000) :
  d8 Tryz.prog 26 [.slice A sk.length c, .slice B at_.length d] h fun v h' => (¬ (sk.length = at_.length ∧ sk.length ≤ 200 ∧ okAt at_) ∧ v = .tuple #[.pointer none, .int .i64 1] ∧ St h0 h' l) ∨
   ((sk.length = at_.length ∧ sk.length ≤ 200 ∧ okAt at_) ∧ ∃ k, v = .tuple #[.pointer (some ⟨k, 0, none⟩), .int .i64 0] ∧ St h0 h' (t6 k (P6 sk at_) :: l)) := by
 by_cases h1 : (sk.length : Int) = at_.length
 case neg =>
  refine EN i26.eq_1 fun K hK => ?_
  refine Wa ?_
  exact hK _ _ (.inl ⟨fun h => h1 (by omega), rfl, S⟩)
 by_cases h2 : 200 < (sk.length : Int)
 ·refine EN i26.eq_1 fun K hK => ?_
  refine Wa ?_
  exact hK _ _ (.inl ⟨fun h => by omega, rfl, S⟩)
 refine EN i26.eq_1 fun K hK => ?_
 refine Wa ?_
 (revert S; (try clear F); refine AL fun k h S F => ?_)
 have S : St h0 h (f9 KU.enc 4 110 (.slice none 0 0) [] :: _) := S.nilS
 refine Wa ?_
 refine lI (fun ρ h' => ρ 0 = .slice A sk.length c ∧ ρ 6 = .pointer (some ⟨k, 0, none⟩) ∧ ρ 21 = .slice B at_.length d ∧ ρ 22 = .int .i64 at_.length ∧ ∃ i : Nat, ρ 23 = .int .i64 i ∧ i ≤ at_.length ∧ okAt (at_.take i) ∧ ∃ (E : Option Addr) (e : Nat),
  St h0 h' (f9 KU.enc 4 110 (.slice E (P6 (sk.take i) (at_.take i)).length e) (P6 (sk.take i) (at_.take i)) :: f8 k [.slice E (P6 (sk.take i) (at_.take i)).length e] 108 :: l)) (fun ρ _ => at_.length - (iv (ρ 23)).toNat) ?_ ?_
 ·refine Wa ?_
  exact ⟨0, rfl, by omega, by simp [okAt], none, 0, S⟩
 clear S F
 rintro ρ h J hJ ⟨e0, e6, e21, e22, i, e23, hi, hok, E, e, S⟩
 refine Wc e22 e23 ?_
 refine cD (fun hlt => ?_) (fun hlt => ?_)
 ·have hil : i < at_.length := by omega
  have hil2 : i < sk.length := by omega
  obtain ⟨b1, o1, rfl, q1⟩ := (hb _ S.tl.tl).at hil
  obtain ⟨b2, o2, rfl, q2⟩ := (ha _ S.tl.tl).at hil2
  have q1 := rP0 q1 (by omega)
  have q2 := rP0 q2 (by omega)
  simp only [j4, l_o] at q1 q2
  have hmem := l_v hil
  have hll : (P6 (sk.take i) (at_.take i)).length = i := by
   rw [P6, List.length_zipWith, u6, u6]; omega
  have hs1 : P6 (sk.take (i + 1)) (at_.take (i + 1)) = P6 (sk.take i) (at_.take i) ++ [⟨at_[i], sk[i], false, false⟩] := by
   rw [l_t hil, l_t hil2, P6, List.zipWith_append (by rw [u6, u6]; omega)]
   rfl
  have htk : (0 ≤ at_[i] ∧ at_[i] < 9) → okAt (at_.take (i + 1)) := fun hx p hp => by
   rw [l_t hil] at hp
   rcases List.mem_append.1 hp with hp | hp
   ·exact hok p hp
   ·rw [Q9] at hp; rw [hp]; exact hx
  have hbad : ¬ (0 ≤ at_[i] ∧ at_[i] < 9) → ¬ (sk.length = at_.length ∧ sk.length ≤ 200 ∧ okAt at_) := fun hn h => hn (h.2.2 _ hmem)
  have hq2 : ∀ {h' : c9} {L : List HP}, St h0 h' (L ++ l) → rd1 h' (.pointer (some ⟨b2, o2 + i * 1, none⟩)) = some (.int .i64 sk[i]) := fun S' => by
   obtain ⟨b3, o3, hA, q3⟩ := (ha _ S'.dropL).at hil2
   cases hA
   have q3 := rP0 q3 (by omega)
   simpa only [j4, l_o] using q3
  generalize at_[i] = x at *
  generalize sk[i] = y at *
  by_cases c1 : x < 0
  ·refine We e21 e23 q1 c1 ?_
   exact hK _ _ (.inl ⟨hbad (by omega), rfl, S.tl.tl⟩)
  by_cases c2 : 9 ≤ x
  ·refine Wf e21 e23 q1 c1 c2 ?_
   exact hK _ _ (.inl ⟨hbad (by omega), rfl, S.tl.tl⟩)
  have hg0 := l9 (off := 0) S.p1
  simp only [l_o] at hg0
  generalize P6 (sk.take i) (at_.take i) = W at *
  have hI : (fun h' => rd1 h' (.pointer (some ⟨k, 0, none⟩)) = some (.slice E W.length e) ∧ rd1 h' (.pointer (some ⟨b2, o2 + i * 1, none⟩)) = some (.int .i64 y)) h := ⟨hg0, hq2 (L := [_, _]) S⟩
  have rx : ∀ K t, n6 (fun h' => rd1 h' (.pointer (some ⟨k, 0, none⟩)) = some (.slice E W.length e) ∧ rd1 h' (.pointer (some ⟨b2, o2 + i * 1, none⟩)) = some (.int .i64 y)) (fun h' => rd1 h' (.pointer (some ⟨k, 0, none⟩))) K t = K (.slice E W.length e) := fun K t => rI (fun h' hh => hh.1) h hI
  have ry : ∀ K t, n6 (fun h' => rd1 h' (.pointer (some ⟨k, 0, none⟩)) = some (.slice E W.length e) ∧ rd1 h' (.pointer (some ⟨b2, o2 + i * 1, none⟩)) = some (.int .i64 y)) (fun h' => rd1 h' (.pointer (some ⟨b2, o2 + i * 1, none⟩))) K t = K (.int .i64 y) := fun K t => rI (fun h' hh => hh.2) h hI
  simp only [x5] at hI rx ry hq2
  refine Wf e21 e23 q1 c1 c2 ?_
  refine dI (fun h' => rd1 h' (.pointer (some ⟨k, 0, none⟩)) = some (.slice E W.length e) ∧ rd1 h' (.pointer (some ⟨b2, o2 + i, none⟩)) = some (.int .i64 y)) hI ?_
  refine Wf e0 e6 rx ry @x5 ?_
  (revert S; (try clear F); refine AL fun q h S F => ?_)
  refine ⟨⟨l9 (off := 0) S.p2, hq2 (L := [_, _, _]) S⟩, ?_⟩
  refine Wa ?_
  refine tA1 (bytes := 24) (x := (⟨x, y, false, false⟩ : KU)) KU.enc_len (by omega) KU.enc_plain rfl rfl S (by omega) (by omega) ?_
  clear S F
  intro v h S
  rw [← hs1] at S
  obtain ⟨E', e', rfl⟩ := S.sl
  refine Wa ?_
  refine tS S.p1 (by rfl) (by rfl) (l_a rfl) ?_
  clear S
  intro h S
  replace S := S.nm
  refine Wb e23 ?_
  refine hJ _ _ ?_ ?_
  ·refine We e0 e6 e21 e22 ?_
   exact ⟨i + 1, rfl, by omega, htk (by omega), E', e', S.p1⟩
  ·refine Wb e23 ?_
   omega
 obtain rfl : i = at_.length := by omega
 have hx : sk.take at_.length = sk := by rw [← (show sk.length = at_.length by omega), E8]
 rw [hx, E8] at S
 rw [E8] at hok
 refine Wb e6 ?_
 exact hK _ _ (.inr ⟨⟨by omega, by omega, hok⟩, k, rfl, St.stk.2 ⟨_, S.p1⟩⟩)
end
end
section
set_option maxHeartbeats 8000000
section
variable {h0 h : c9} {l : List HP}
end
def b8D (l : Lin) : List UInt8 := le 2 l.sku ++ (le 1 l.cat ++ (le 8 l.price ++ le 1 l.count))
def b9W (o : Odr) : List UInt8 := le 4 o.day ++ (le 8 o.disc ++ (le 8 o.tax ++ (le 8 o.ship ++ (le 1 o.ls.length ++ o.ls.flatMap b8D))))
def supB (s : Sup) : List UInt8 := le 2 s.sku ++ (le 8 s.price ++ le 1 s.count)
def encC (C : Cfg) : List UInt8 := (le 2 (b9q C.ps).length ++ b9q C.ps) ++ (le 1 C.os.length ++ (C.os.flatMap b9W ++ (le 1 C.ss.length ++ C.ss.flatMap supB)))
section
variable {h0 h : c9} {l : List HP}
end
end
section
set_option maxHeartbeats 8000000
def Odr.pu (o : Odr) : Int × Int × Int × Int × List Lin := (o.day, o.disc, o.tax, o.ship, o.ls)
def Cfg.pu (C : Cfg) : List Pol × List Sup × List (Int × Int × Int × Int × List Lin) := (C.ps, C.ss, C.os.map Odr.pu)
end
section
set_option maxHeartbeats 8000000
abbrev Q := List UInt8 × Bool
noncomputable def vi (q : Q) : Int := IntKind.i64.wrap (vl 8 q)
noncomputable def K8 (q : Q) : List UInt8 × Q := if (stp 2 q).2 = true ∨ (stp 2 q).1.length < (vl 2 q).toNat then ([], ([], true)) else ((stp 2 q).1.take (vl 2 q).toNat, ((stp 2 q).1.drop (vl 2 q).toNat, false))
noncomputable def a9K (q : Q) : Lin × Q := (⟨vl 2 q, vl 1 (stp 2 q), vi (stp 1 (stp 2 q)), vl 1 (stp 8 (stp 1 (stp 2 q)))⟩, stp 1 (stp 8 (stp 1 (stp 2 q))))
noncomputable def c0z (q : Q) : Sup × Q := (⟨vl 2 q, vi (stp 2 q), vl 1 (stp 8 (stp 2 q))⟩, stp 1 (stp 8 (stp 2 q)))
noncomputable def H1 {α : Type} (p : Q → α × Q) : Nat → Q → List α × Q
 | 0, q => ([], q)
 | n + 1, q => ((H1 p n q).1 ++ [(p (H1 p n q).2).1], (p (H1 p n q).2).2)
abbrev POd := Int × Int × Int × Int × List Lin
noncomputable def b9M (q : Q) : POd × Q :=
 ((vl 4 q, vi (stp 4 q), vi (stp 8 (stp 4 q)), vi (stp 8 (stp 8 (stp 4 q))), (H1 a9K (vl 1 (stp 8 (stp 8 (stp 8 (stp 4 q))))).toNat (stp 1 (stp 8 (stp 8 (stp 8 (stp 4 q)))))).1),
  (H1 a9K (vl 1 (stp 8 (stp 8 (stp 8 (stp 4 q))))).toNat (stp 1 (stp 8 (stp 8 (stp 8 (stp 4 q)))))).2)
theorem a1D {α : Type} (p : Q → α × Q) (q : Q) : ∀ n, (H1 p n q).1.length = n
 | 0 => rfl
 | n + 1 => by rw [H1, l_m, a1D p q n]; rfl
theorem vl1 (q : Q) : 0 ≤ vl 1 q ∧ vl 1 q < 256 := by have := b0r 1 q.1 q.2; simpa [vl] using this
theorem vl2 (q : Q) : 0 ≤ vl 2 q ∧ vl 2 q < 65536 := by have := b0r 2 q.1 q.2; simpa [vl] using this
section
variable {h0 h : c9} {l : List HP} {i : Nat} {q : Q}
end
end
end Go.Proofs.YtcgbhcgfdcfmaaaGreat.MX
