import Derived.Test.YtcgbhcgfdcfmaaaGreatK25
import Derived.Test.YtcgbhcgfdcfmaaaGreatK20
import Derived.Test.YtcgbhcgfdcfmaaaGreatK29
import Derived.Test.YtcgbhcgfdcfmaaaGreatK27
namespace Go.Proofs.YtcgbhcgfdcfmaaaGreat.MX
open Go Go.Proofs
set_option linter.unusedSimpArgs false
set_option linter.unusedVariables false
section
set_option maxHeartbeats 8000000
def a2j (u : Unt) : Int := if u.ord < 0 then 3 else 0
noncomputable def z8 (C : Cfg) : Sag := ⟨P6 ((l6 C).map Unt.sku) ((l6 C).map a2j), ⟨0, 0, 0, 0, 0⟩, [], [], 1, [], 0⟩
theorem map_set {U : List Unt} (f : Unt → Int) {i : Nat} (hi : i < U.length) : ((U.take i).map f ++ List.replicate (U.length - i) 0).set i (f U[i]) = (U.take (i + 1)).map f ++ List.replicate (U.length - (i + 1)) 0 := by
 rw [a4o _ _ (by rw [l_z, u6]; omega), l_z, u6, Nat.min_eq_left (by omega), Nat.sub_self, show U.length - i = U.length - (i + 1) + 1 by omega, List.replicate_succ, l_h, l_t hi, N5, l_q]
 rfl
theorem b1i {U : List Unt} (f : Unt → Int) {i : Nat} (hi : i ≤ U.length) : ((U.take i).map f ++ List.replicate (U.length - i) (0 : Int)).length = U.length := by
 rw [l_m, l_z, u6, C1]; omega
section
variable {h0 h : c9} {l : List HP}
theorem b7d {A : Option Addr} {c : Nat} {U : List Unt} (S : St h0 h l) (ha : ∀ h', St h0 h' l → Arr Unt.enc 4 h' A U) (hl : U.length < 1000000) :
  d8 Tryz.prog 27 [.slice A U.length c] h fun v h' => St h0 h' (f9 j4 1 3 v (U.map Unt.sku) :: l) := by
 refine EN i27.eq_1 fun K hK => Wa ?_
 refine X6 (0 : Int) zEl rfl S (by omega) (by omega) ?_
 clear S
 intro w h S
 obtain ⟨B, d, rfl⟩ := S.sl
 rw [C1] at S ⊢
 refine Wa ?_
 refine lI (fun ρ h' => ρ 3 = .slice B U.length d ∧ ρ 9 = .slice A U.length c ∧ ρ 10 = .int .i64 U.length ∧ ∃ i : Nat, ρ 11 = .int .i64 i ∧ i ≤ U.length ∧
  St h0 h' (f9 j4 1 3 (.slice B U.length d) ((U.take i).map Unt.sku ++ List.replicate (U.length - i) 0) :: l)) (fun ρ _ => U.length - (iv (ρ 11)).toNat) ?_ ?_
 ·refine Wa ?_
  exact ⟨0, rfl, by omega, S⟩
 clear S
 rintro ρ h J hJ ⟨e3, e9, e10, i, e11, hi, S⟩
 refine Wc e10 e11 ?_
 refine cD (fun hlt => ?_) (fun hlt => ?_)
 ·have hil : i < U.length := by omega
  obtain ⟨b1, o1, rfl, q1⟩ := (ha _ S.tl).at hil
  have hset := map_set Unt.sku hil
  have hlen := b1i Unt.sku hi
  generalize U[i] = x at *
  refine Wd e9 e11 q1 ?_
  (revert S; (try clear F); refine AL fun q h S F => ?_)
  refine Wc F @Unt.enc.eq_1 ?_
  (revert S; (try clear F); refine ST fun h S F => ?_)
  obtain ⟨b, rfl⟩ := S.p1.ownAt (by omega)
  refine Wd e3 e11 F ?_
  refine u3 zEl (i := i) (x := x.sku) S.p1 (by omega) (by rw [x5]; try rfl) rfl rfl rfl ?_
  clear S F q1
  intro h S
  rw [hset] at S
  refine Wb e11 ?_
  refine hJ _ _ ?_ ?_
  ·refine Wd e3 e9 e10 ?_
   exact ⟨i + 1, rfl, by omega, S.d1⟩
  ·refine Wb e11 ?_
   omega
 obtain rfl : i = U.length := by omega
 rw [Nat.sub_self, List.replicate_zero, C4, E8] at S
 refine Wb e3 ?_
 exact hK _ _ S
theorem b1H (C : Cfg) (r : ∀ h', St h0 h' l → C.rd h') (w : C.wf) (l1 : C.os.length < 1000000) (l2 : C.ss.length < 1000000) (l3 : C.ps.length < 1000000) (l4 : ∀ o ∈ C.os, o.ls.length < 1000000) (S : St h0 h l) :
  d8 Tryz.prog 8 [.agg C.enc.toArray] h fun v h' => (¬ C8 C ∧ v = .tuple #[.pointer none, .int .i64 1] ∧ St h0 h' l) ∨
   (C8 C ∧ ∃ p D u, v = .tuple #[.pointer (some ⟨p, 0, none⟩), .int .i64 0] ∧ D.wf ∧ D.pu = C.pu ∧ St h0 h' (K0 p D u (z8 C) :: a7l D u (l6 C) :: l)) := by
 refine EN i8.eq_1 fun K hK => Wa ?_
 (revert S; (try clear F); refine AL fun g h S F => ?_)
 refine Wc F @Cfg.enc.eq_1 ?_
 rw [show [Value.slice C.A1 C.os.length C.c1, .slice C.A2 C.ss.length C.c2, .slice C.A3 C.ps.length C.c3] = C.enc from rfl]
 refine cI (b3f C (fun h' S => r h' S.tl) w l1 l2 l3 l4 S) ?_
 clear S F
 rintro _ h (⟨hok, rfl, S⟩ | ⟨hok, u, rfl, S⟩)
 ·refine Wa ?_
  exact hK _ _ (.inl ⟨hok, rfl, S.tl⟩)
 obtain ⟨A, c, rfl⟩ := S.sl
 obtain ⟨_, hul⟩ := a2C hok
 obtain ⟨U, hU⟩ : ∃ U, U = l6 C := ⟨_, rfl⟩
 rw [← hU] at S hul ⊢
 refine Wa ?_
 refine X6 (0 : Int) zEl rfl S (by omega) (by omega) ?_
 clear S
 intro w' h S
 obtain ⟨B, d, rfl⟩ := S.sl
 rw [C1] at S ⊢
 refine Wa ?_
 refine lI (fun ρ h' => ρ 1 = .pointer (some ⟨g, 0, none⟩) ∧ ρ 4 = .slice A U.length c ∧ ρ 6 = .slice B U.length d ∧ ρ 20 = .slice A U.length c ∧ ρ 21 = .int .i64 U.length ∧ ∃ i : Nat, ρ 22 = .int .i64 i ∧ i ≤ U.length ∧
  St h0 h' (f9 j4 1 3 (.slice B U.length d) ((U.take i).map a2j ++ List.replicate (U.length - i) 0) :: f9 Unt.enc 4 72 (.slice A U.length c) U :: f8 g C.enc 26 :: l)) (fun ρ _ => U.length - (iv (ρ 22)).toNat) ?_ ?_
 ·refine Wa ?_
  exact ⟨0, rfl, by omega, S⟩
 clear S
 rintro ρ h J hJ ⟨e1, e4, e6, e20, e21, i, e22, hi, S⟩
 refine Wc e21 e22 ?_
 refine cD (fun hlt => ?_) (fun hlt => ?_)
 ·have hil : i < U.length := by omega
  obtain ⟨b1, o1, rfl, q1⟩ := (S.p1.arr Unt.enc_len).at hil
  have hset := map_set a2j hil
  have hlen := b1i a2j hi
  have hsame : U[i].ord < 0 ∨ ((U.take i).map a2j ++ List.replicate (U.length - i) 0) = (U.take (i + 1)).map a2j ++ List.replicate (U.length - (i + 1)) 0 := by
   by_cases hx : U[i].ord < 0
   ·exact .inl hx
   ·refine .inr ?_
    have : a2j U[i] = 0 := if_neg hx
    rw [l_t hil, N5, l_q, show U.length - i = U.length - (i + 1) + 1 by omega, List.replicate_succ]
    simp [this]
  generalize U[i] = x at *
  refine Wd e20 e22 q1 ?_
  (revert S; (try clear F); refine AL fun q h S F => ?_)
  refine Wc F @Unt.enc.eq_1 ?_
  (revert S; (try clear F); refine ST fun h S F => ?_)
  by_cases hx : x.ord < 0
  ·obtain ⟨b, rfl⟩ := S.p1.ownAt (by omega)
   refine We e6 e22 F hx ?_
   refine u3 zEl (i := i) (x := 3) S.p1 (by omega) (by rw [x5]; try rfl) rfl rfl rfl ?_
   clear S F q1
   intro h S
   rw [show (3 : Int) = a2j x by rw [a2j, if_pos hx], hset] at S
   refine Wb e22 ?_
   refine hJ _ _ ?_ ?_
   ·refine Wf e1 e4 e6 e20 e21 ?_
    exact ⟨i + 1, rfl, by omega, S.d1⟩
   ·refine Wb e22 ?_
    omega
  ·rw [hsame.resolve_left hx] at S
   refine Wd e22 F hx ?_
   refine hJ _ _ ?_ ?_
   ·refine Wf e1 e4 e6 e20 e21 ?_
    exact ⟨i + 1, rfl, by omega, S.tl⟩
   ·refine Wb e22 ?_
    omega
 obtain rfl : i = U.length := by omega
 rw [Nat.sub_self, List.replicate_zero, C4, E8] at S
 clear hJ e20 e21 e22
 refine Wb e4 ?_
 refine cI (b7d S (fun h' S => S.p1.arr Unt.enc_len) (by omega)) ?_
 clear S
 intro v h S
 obtain ⟨Ak, ck, rfl⟩ := S.sl
 refine Wb e6 ?_
 have hn : U.length = (U.map a2j).length := (l_z ..).symm
 have hn2 : (U.map Unt.sku).length = U.length := l_z ..
 have hcall := b8K (A := Ak) (B := B) (c := ck) (d := d) (sk := U.map Unt.sku) (at_ := U.map a2j) S (fun h' S => S.arr zEl) (fun h' S => by have S1 := S.p1; rw [hn] at S1; exact S1.arr zEl) (by rw [hn2]; omega) (by rw [← hn]; omega)
 rw [← hn] at hcall
 refine cI hcall ?_
 clear S hcall
 have hokA : okAt (U.map a2j) := fun q hq => by
  obtain ⟨x, _, rfl⟩ := List.mem_map.1 hq
  unfold a2j
  split <;> omega
 rintro _ h (⟨hbad, _⟩ | ⟨_, k, rfl, S⟩)
 ·exact (hbad ⟨by rw [hn2], by rw [hn2]; exact hul, hokA⟩).elim
 have S := S.d1.d1
 ((try clear F); have F := S.fx)
 refine Wc e1 F ?_
 refine cI (a9j C (fun h' S => r h' S.tl.tl.tl) hok S) ?_
 clear S F
 rintro _ h ⟨D, rfl, hw, hp, S⟩
 refine Wc e4 @Cfg.enc.eq_1 ?_
 (revert S; (try clear F); refine AL fun t h S F => ?_)
 have S := b7J S
 refine Wa ?_
 refine cI (b8M S) ?_
 clear S F
 rintro _ h ⟨o, rfl, S⟩
 refine Wb @Cfg.enc.eq_1 ?_
 (revert S; (try clear F); refine AL fun p h S F => ?_)
 refine Wa ?_
 refine hK _ _ (.inr ⟨hok, p, D, .slice A U.length c, rfl, hw, hp, ?_⟩)
 have S : St h0 h (a1X (.slice none 0 0) [] :: _) := St.rmas.2 ⟨[], rfl, S.nilS⟩
 have S := St.star.2 (S.p7.tl.p6.p5)
 rw [hU] at S ⊢
 have S : St h0 h (a7l D (.slice A (l6 C).length c) (l6 C) :: a1X (.slice none 0 0) (z8 C).R :: f8 p (n7 D (.slice A (l6 C).length c) k t o (.slice none 0 0) (.slice none 0 0) (z8 C)) 84 :: A9 o (z8 C).key (z8 C).O :: C7 t (z8 C).T :: t6 k (z8 C).K :: l) := S
 exact St.saga.2 ⟨k, t, o, .slice none 0 0, by (exact PM S) ⟩
end
end
section
def b0U (now : Int) (m : Msg) : Msg := if m.due > now then m else m.bump now
def b1s (now : Int) (m : Msg) : Bool := decide (m.due > now) || !decide (m.kind = 1 ∧ m.tries ≥ 5)
def b4a (ss : List Sup) (U : List Unt) (w : Wk) (days : Int) : Wk × List Msg :=
 let now := w.s.now + days
 let w1 := ((a0J w.s.T now).map Tm.num).foldl (a4n ss U) { w with s := { w.s with now := now, T := V4 w.s.T now } }
 ((A6 now w1.s.O).foldl (fun w m => a1k w (m.rma - 1).toNat 8) { w1 with s := { w1.s with O := E5 now w1.s.O } }, I9 now w1.s.O)
section
variable {D : Cfg} {U : List Unt} {w W : Wk} {e i j m : Nat} {q s : Int} {r : Ret} {K : List KU} {O : List Msg}
theorem b0T (now : Int) : ∀ l : List Msg, E5 now l = (l.filter (b1s now)).map (b0U now)
 | [] => rfl
 | x :: l => by
  have ih := b0T now l
  simp only [E5, T0, List.filter_cons] at ih ⊢
  rw [ih]
  unfold R6 b1s b0U
  split
  ·simp [*]
  ·split <;> simp [*]
theorem a3G {now : Int} {l : List Msg} {x : Msg} (h : x ∈ A6 now l) : x ∈ l ∧ x.kind = 1 := by
 obtain ⟨y, hy, hx⟩ := List.mem_flatMap.1 h
 unfold J4 at hx
 split at hx
 ·cases hx
 ·split at hx
  ·obtain rfl := List.mem_singleton.1 hx
   rename_i h1
   exact ⟨hy, h1.1⟩
  ·cases hx
theorem a6k (now : Int) : ∀ l : List Msg, (A6 now l).Sublist l
 | [] => List.Sublist.refl _
 | x :: l => by
  have ih := a6k now l
  simp only [A6, T0] at ih ⊢
  unfold J4
  split
  ·exact ih.cons _
  ·split
   ·exact ih.cons_cons _
   ·exact ih.cons _
theorem b9r (ss : List Sup) (w : Wk) (i : Nat) : (a3Y ss w i).s.T = w.s.T := by
 have hc : ∀ v : Wk, (A5 v i).s.T = v.s.T := fun v => by unfold A5; split <;> rfl
 have hp : ∀ (v : Wk) s, (S9 v i s).s.T = v.s.T := fun v s => by unfold S9; split; rfl; split <;> rfl
 have hr : (l8 w i).s.T = w.s.T := by unfold l8; split <;> rfl
 unfold a3Y
 rw [hc]
 split
 ·split
  ·rw [hp, hr]
  ·rw [hp]; rfl
 ·rw [hp]
theorem c0Y (ss : List Sup) (w : Wk) (n : Int) : ∀ x ∈ (a4n ss U w n).s.T, x ∈ w.s.T := by
 intro x hx
 unfold a4n at hx
 simp only at hx
 split at hx
 ·unfold a4P T3 at hx
  rw [b9r, Q4] at hx
  exact hx
 ·split at hx
  ·unfold a1k at hx
   have := (L8 hx).1
   unfold l8 at this
   split at this <;> exact this
  ·exact hx
theorem a8k (hD : Stc D U) : ∀ {l : List Int} {w : Wk} {m : Nat}, Inv D U w 1000 0 → w.wf U m → l.Nodup → (∀ n ∈ l, (1 ≤ n ∧ n ≤ w.s.R.length) ∧ ∀ x ∈ w.s.T, x.num ≠ n) →
  H7 (a1o D.ss U) w l = .ok (l.foldl (a4n D.ss U) w) ∧ Inv D U (l.foldl (a4n D.ss U) w) 1000 0 ∧ (l.foldl (a4n D.ss U) w).wf U (m + 2 * l.length)
 | [], w, m, I, Wf, _, _ => ⟨rfl, I, Wf⟩
 | n :: l, w, m, I, Wf, hn, h => by
  obtain ⟨h1, h2⟩ := h n (by simp)
  obtain ⟨a, b, c, d⟩ := b7G hD I Wf h1 h2
  rw [List.nodup_cons] at hn
  obtain ⟨e, f, g⟩ := a8k hD (l := l) b c hn.2 (fun k hk => by
   have := h k (by simp [hk])
   exact ⟨by omega, fun x hx => this.2 x (c0Y _ _ _ x hx)⟩)
  refine ⟨by rw [H7, a]; exact e, f, ?_⟩
  rw [l_f, show m + 2 * (l.length + 1) = m + 2 + 2 * l.length by omega]
  exact g
theorem a8B : ∀ {l : List Msg} {w : Wk} {m : Nat}, Inv D U w 1000 0 → w.wf U m → l.Pairwise (fun a b => a.rma ≠ b.rma) → (∀ x ∈ l, (1 ≤ x.rma ∧ x.rma ≤ w.s.R.length) ∧ (w.R (x.rma - 1).toNat).state = 1) →
  H7 (fun w (x : Msg) => J8 w x.rma 8) w l = .ok (l.foldl (fun w x => a1k w (x.rma - 1).toNat 8) w) ∧ Inv D U (l.foldl (fun w x => a1k w (x.rma - 1).toNat 8) w) 1000 0
 | [], w, m, I, Wf, _, _ => ⟨rfl, I⟩
 | n :: l, w, m, I, Wf, hn, h => by
  obtain ⟨h1, h2⟩ := h n (by simp)
  obtain ⟨a, b, c, d, e⟩ := a4x (i := (n.rma - 1).toNat) (st := 8) I Wf (by omega) (.inl h2) (by decide)
  rw [show (((n.rma - 1).toNat : Nat) : Int) + 1 = n.rma by omega] at a
  rw [List.pairwise_cons] at hn
  obtain ⟨f, g⟩ := a8B (l := l) b c hn.2 (fun x hx => by
   have h3 := h x (by simp [hx])
   have h4 := hn.1 x hx
   refine ⟨by omega, ?_⟩
   rw [e, if_neg (by omega)]
   exact h3.2)
  exact ⟨by rw [H7, a]; exact f, g⟩
theorem b6n (hD : Stc D U) {days : Int} (I : Inv D U w 1000 0) (Wf : w.wf U m) (hd : ¬ (days < 1 ∨ 1000 < days)) (hn : ¬ 100000 < w.s.now + days) :
  a1Y D.ss U w days = .ok (b4a D.ss U w days) ∧ Inv D U (b4a D.ss U w days).1 1000 0 := by
 have hnow := Wf.now
 obtain ⟨now, hno⟩ : ∃ now, now = w.s.now + days := ⟨_, rfl⟩
 obtain ⟨w0, hw0⟩ : ∃ w0 : Wk, w0 = { w with s := { w.s with now := now, T := V4 w.s.T now } } := ⟨_, rfl⟩
 have hTT : w.s.T = a0J w.s.T now ++ V4 w.s.T now := (List.takeWhile_append_dropWhile).symm
 have hall := Wf.tg.2
 rw [hTT, a1u] at hall
 have I0 : Inv D U w0 1000 0 := a8T I (f := id) (p := fun _ => true) (by rw [hw0]) (by rw [hw0]) (by rw [hw0]) (fun x hx => by rw [hw0] at hx; exact (List.dropWhile_sublist _).subset hx) (fun _ => ⟨rfl, rfl, rfl⟩) (fun _ _ h => by simp at h) (by rw [hw0, List.map_id, List.filter_eq_self.2 (fun _ _ => rfl)])
 have W0 : w0.wf U m := by rw [hw0]; exact Wf.late (by omega)
 obtain ⟨a, b, c⟩ := a8k hD (l := (a0J w.s.T now).map Tm.num) I0 W0 (by
  rw [List.Nodup, List.pairwise_map]
  exact hall.1) (fun n hn => by
   obtain ⟨y, hy, rfl⟩ := List.mem_map.1 hn
   have h1 := Wf.tn y (by rw [hTT]; exact a0z _ hy)
   refine ⟨by rw [hw0]; exact h1, fun x hx he => ?_⟩
   rw [hw0] at hx
   exact hall.2.2 y hy x hx he.symm)
 obtain ⟨w1, hw1⟩ : ∃ w1, w1 = ((a0J w.s.T now).map Tm.num).foldl (a4n D.ss U) w0 := ⟨_, rfl⟩
 rw [← hw1] at a b c
 obtain ⟨w2, hw2⟩ : ∃ w2 : Wk, w2 = { w1 with s := { w1.s with O := E5 now w1.s.O } } := ⟨_, rfl⟩
 have I2 : Inv D U w2 1000 0 := a8T b (f := b0U now) (p := b1s now) (by rw [hw2]) (by rw [hw2]) (by rw [hw2]) (fun x hx => by rw [hw2] at hx; exact hx) (fun x => by unfold b0U; split <;> exact ⟨rfl, rfl, rfl⟩) (fun x _ h => by unfold b1s at h; simp at h; exact h.2.1) (by rw [hw2]; exact b0T _ _)
 have W2 := c.left now
 rw [← hw2] at W2
 have hg : (A6 now w1.s.O).Pairwise (fun a b => a.rma ≠ b.rma) := by
  have := b.cls.sublist (a6k now w1.s.O)
  rw [List.pairwise_iff_forall_sublist] at this ⊢
  intro x y hxy he
  have hx := (a3G (hxy.subset (by simp : x ∈ [x, y]))).2
  have hy := (a3G (hxy.subset (by simp : y ∈ [x, y]))).2
  exact this hxy ⟨by omega, .inl ⟨.inl hx, he⟩⟩
 obtain ⟨f, g⟩ := a8B (l := A6 now w1.s.O) I2 W2 hg (fun x hx => by
  obtain ⟨h1, h2⟩ := a3G hx
  have h3 := b.msg x h1
  rw [hw2]
  exact ⟨h3.rma, h3.k1 h2⟩)
 unfold a1Y b4a
 rw [if_neg hd, if_neg hn]
 simp only [← hno, ← hw0, ← hw1, ← hw2]
 rw [a]
 simp only [Except.bind, ← hw2]
 rw [f]
 exact ⟨rfl, g⟩
theorem a8f {α : Type} {f : α → Int} : ∀ {l : List α}, Y4 f l = 0 → ∀ x ∈ l, f x = 0
 | [], _, x, h => absurd h (by simp)
 | y :: l, h, x, hx => by
  unfold Y4 at h
  split at h
  ·rcases List.mem_cons.1 hx with rfl | hx
   ·assumption
   ·exact a8f h x hx
  ·rename_i h1; exact absurd h h1
theorem b2X {sku : Int} {n : Nat} (h : a3p K sku = some n) : n < K.length ∧ (K.getD n KU0).place = 3 ∧ (K.getD n KU0).sku = sku := by
 unfold a3p at h
 rw [a9v] at h
 obtain ⟨h1, h2, _⟩ := h
 have := of_decide_eq_true h2
 rw [l_s, l_r h1]
 exact ⟨h1, this⟩
theorem b8P (hD : Stc D U) {c : Cmd} {x : Int × Wk} (I : Inv D U w 1000 0) (Wf : w.wf U m) (hc : c.formed) (h1 : c.kind = 1) (h : Q7 D.ps D.os D.ss U w c = .ok x) : Inv D U x.2 1000 0 := by
 have hf := hc.1
 unfold Cmd.fits at hf
 rw [if_pos h1] at hf
 have W2 := a2g hD.ul (by have := hf.1; omega) h Wf
 have hw := hf.2.2.2.1
 unfold btw at hw
 unfold Q7 at h
 split at h
 ·cases h
 split at h
 ·cases h
 split at h
 ·cases h
 rename_i hlen hord hask
 obtain ⟨y, hy, rfl⟩ := x8 h
 unfold a0v at hask
 split at hask
 ·exact absurd hask (by simp)
 split at hask
 ·exact absurd hask (by simp)
 rename_i hu hrea
 have hunit : ∀ k, k < c.us.length → I5 U c k := o7 (by cases hd : dcd (∀ i, i < c.us.length → I5 U c i) with | false => exact absurd hd hu | true => rfl)
 have hware : ∀ u ∈ c.us, j1 w.s.K u = 0 ∧ a0I w.s u ≤ 0 := fun u hu => by
  have := a8f (Classical.not_not.1 hask) u hu
  unfold S7 at this
  split at this
  ·simp at this
  ·omega
 have hnow := Wf.now
 have hy2 : y.2.s.R = w.s.R ∧ y.2.s.O = w.s.O ∧ y.2.s.T = w.s.T ∧ y.2.s.led = w.s.led ∧ y.2.s.now = w.s.now ∧ (y.1 = -1 ∧ y.2.s.K = w.s.K ∨ ∃ n : Nat, n < w.s.K.length ∧ y.1 = n ∧ j1 w.s.K n = 3 ∧ y.2.s.K = w.s.K.set n { w.s.K.getD n KU0 with place := 7 } ∧ (u4 D.ss c.want).isSome = true) := by
  unfold a0G at hy
  split at hy
  ·cases hy; exact ⟨rfl, rfl, rfl, rfl, rfl, .inl ⟨rfl, rfl⟩⟩
  ·split at hy
   ·cases hy
   ·rename_i p hp
    split at hy
    ·cases hy
    ·rename_i n hn
     cases hy
     obtain ⟨n1, n2, _⟩ := b2X hn
     exact ⟨rfl, rfl, rfl, rfl, rfl, .inr ⟨n, n1, rfl, by rw [a1a n1]; exact n2, rfl, by rw [hp]; rfl⟩⟩
 obtain ⟨y1, y2, y3, y4, y5, y6⟩ := hy2
 have hmem : ∀ u ∈ c.us, ∃ k, k < c.us.length ∧ c.us.getD k 0 = u := fun u hu => by
  obtain ⟨k, hk, rfl⟩ := a0q hu
  exact ⟨k, hk, m8 hk⟩
 have hds : ∀ j < w.s.R.length, (w.R j).state ≤ 5 → ∀ u ∈ c.us, u ∉ (w.R j).us := fun j hj h5 u hu hin => by
  have h1 := (hware u hu).2
  unfold a0I at h1
  cases hfd : w.s.R.find? fun r => !decide (6 ≤ r.state ∧ r.state ≤ 9) && r.us.contains u with
  | none =>
   rw [List.find?_eq_none] at hfd
   refine hfd _ (E3 hj) ?_
   rw [a1Q, List.contains_iff_mem]
   exact ⟨by simp; omega, hin⟩
  | some r =>
   rw [hfd] at h1
   have hr := List.mem_of_find?_eq_some hfd
   obtain ⟨k, hk, rfl⟩ := a0q hr
   have := (I.ret k hk).num
   have e : w.R k = w.s.R[k] := by unfold Wk.R; rw [l_s, l_r hk]; rfl
   rw [e] at this
   simp only [Option.map_some, Option.getD_some] at h1
   omega
 have hRI : b7v D U w.s.R.length ⟨(w.s.R.length : Int) + 1, c.ord, c.rea, c.want, y.1, c.cred || c.us.any fun u => (B2 D.ps (l7 U u).cat).cre, 1, w.s.now, c.us, c.us.map fun _ => -1, 0, 0, 0, 0⟩ := by
  refine ⟨rfl, by simp only; omega, ⟨by simp only; omega, by simp only; omega⟩, by simp only; omega, hnow, by simp, fun u hu => ?_, fun _ _ _ g hg => ?_, fun h => by simp at h, fun h => by simp at h, ?_, by simp, fun _ _ => rfl⟩
  ·obtain ⟨k, hk, rfl⟩ := hmem u hu
   exact (hunit k hk).2.2.2
  ·obtain ⟨_, _, rfl⟩ := List.mem_map.1 hg; rfl
  ·exact (b4i (by simp) fun g hg => by obtain ⟨_, _, rfl⟩ := List.mem_map.1 hg; rfl).symm
 refine b7f (m := ⟨y.2.s.key, 1, (w.s.R.length : Int) + 1, 0, 1, y.2.s.now + 1⟩) I (by have := Wf.rl; omega) hRI rfl ⟨rfl, rfl⟩ (fun u hu => (hware u hu).1) hds y6 rfl ?_ ?_ y4
 ·show y.2.s.O ++ _ = _
  rw [y2]
 ·intro x hx
  have hx' : x ∈ setT y.2.s.T _ _ := hx
  rcases a4w hx' with h | h
  ·exact .inr h
  ·rw [y3] at h; exact .inl h
theorem b5O (hD : Stc D U) {sg : Sag} {c : Cmd} (I : Inv D U ⟨sg, []⟩ 1000 0) (Wf : sg.wf U m) : Inv D U ⟨(U7 D U sg c).2.2.2, []⟩ 1000 0 := by
 have hsd : ∀ {v : Wk}, Inv D U v 1000 0 → Inv D U ⟨v.s, []⟩ 1000 0 := fun {v} h => by
  obtain ⟨a, b, c, d, e, f, g, h, i, j, k, l, o, p⟩ := h
  exact ⟨a, fun m hm => ⟨(b m hm).1, (b m hm).2, (b m hm).3, (b m hm).4, (b m hm).5, (b m hm).6⟩, c, d, e, f, g, h, i, j, k, l, o, ⟨p.1, p.2, p.3, p.4, p.5⟩⟩
 have Wf' : Wk.wf U m ⟨sg, []⟩ := Wf
 unfold U7
 split
 ·exact I
 rename_i hd
 have hf : c.formed := o7 (by cases hd' : dcd c.formed with | false => exact absurd hd' hd | true => rfl)
 split
 ·exact I
 rename_i x hx
 simp only
 refine hsd ?_
 have hend : ∀ {n st : Int} {v : Wk}, 7 ≤ st ∧ st ≤ 9 → J8 ⟨sg, []⟩ n st = .ok v → Inv D U v 1000 0 := fun {n st v} hst h => by
  have h2 := h
  unfold J8 at h2
  split at h2
  ·cases h2
  ·rename_i r hr
   obtain ⟨i, e1, e2, hi, e3, _⟩ := S6 hr
   split at h2
   ·cases h2
   ·rename_i st2 hn
    have h12 : r.state = 1 ∨ r.state = 2 := by unfold J6 at hn; grind
    obtain ⟨a, b, _⟩ := a4x (i := i) (st := st) I Wf' hi (by rw [e3]; exact h12) hst
    rw [e1, a] at h
    cases h
    exact b
 unfold doP at hx
 split at hx
 ·obtain ⟨z, hz, rfl⟩ := x8 hx; exact b8P hD I Wf' hf (by assumption) hz
 split at hx
 ·obtain ⟨z, hz, rfl⟩ := x8 hx; exact hend (by decide) hz
 split at hx
 ·obtain ⟨z, hz, rfl⟩ := x8 hx; exact hend (by decide) hz
 split at hx
 ·obtain ⟨z, hz, rfl⟩ := x8 hx
  have h := hz
  unfold a4f H0 at h
  cases hat : (⟨sg, []⟩ : Wk).s.at_ c.rma with
  | none => rw [hat] at h; cases h
  | some r =>
   obtain ⟨i, e1, e2, hi, e3, _⟩ := S6 hat
   rw [hat] at h
   cases hn : J6 r.state 2 with
   | none => simp only [hn] at h; cases h
   | some st =>
    obtain ⟨a, b⟩ := b4J I Wf' hi (by rw [e3]; unfold J6 at hn; grind)
    rw [e1, a] at hz
    cases hz
    exact b
 split at hx
 ·obtain ⟨z, hz, rfl⟩ := x8 hx
  have h := hz
  unfold Q3 H0 at h
  cases hat : (⟨sg, []⟩ : Wk).s.at_ c.rma with
  | none => rw [hat] at h; cases h
  | some r =>
   obtain ⟨i, e1, e2, hi, e3, _⟩ := S6 hat
   rw [hat] at h
   cases hn : J6 r.state 3 with
   | none => simp only [hn] at h; cases h
   | some st =>
    obtain ⟨a, b⟩ := a9a I Wf' hi (by rw [e3]; unfold J6 at hn; grind)
    rw [e1, a] at hz
    cases hz
    exact b
 split at hx
 ·obtain ⟨z, hz, rfl⟩ := x8 hx
  unfold V0 at hz
  split at hz
  ·cases hz
  ·rename_i r hr
   obtain ⟨i, e1, e2, hi, e3, _⟩ := S6 hr
   split at hz
   ·cases hz
   ·rename_i h4
    split at hz
    ·cases hz
    ·rename_i k hk
     split at hz
     ·cases hz
     ·rename_i hg4
      subst e3
      rw [e2] at hz
      obtain ⟨a, b⟩ := b2C hD I Wf' hi (Classical.not_not.1 h4) hk hg4
      rw [a] at hz
      cases hz
      exact b
 split at hx
 ·obtain ⟨z, hz, rfl⟩ := x8 hx
  have h := hz
  unfold a1Y at h
  split at h
  ·cases h
  ·split at h
   ·cases h
   ·obtain ⟨a, b⟩ := b6n hD I Wf' (by assumption) (by assumption)
    rw [a] at hz
    cases hz
    exact b
 ·obtain ⟨z, hz, rfl⟩ := x8 hx
  unfold a0y at hz
  split at hz
  ·cases hz
  ·rename_i k hk
   rw [a9v] at hk
   obtain ⟨hk, _, _⟩ := hk
   have hgd : (⟨sg, []⟩ : Wk).s.O.getD k Msg.zero = sg.O[k] := by rw [l_s, l_r hk]; rfl
   simp only at hz
   split at hz
   ·cases hz
   ·rw [hgd] at hz
    obtain ⟨a, b⟩ := b3j (w := ⟨sg, []⟩) hD I Wf' hk (x := sg.O[k]) rfl rfl c.yes rfl
    rw [a] at hz
    cases hz
    exact b
theorem b7R {C : Cfg} (hD : Stc D (l6 C)) : Inv D (l6 C) ⟨z8 C, []⟩ 1000 0 := by
 have hK : ∀ n < (z8 C).K.length, (z8 C).K.getD n KU0 = ⟨if (l7 (l6 C) n).ord < 0 then 3 else 0, (l7 (l6 C) n).sku, false, false⟩ := fun n hn => by
  have hl : (z8 C).K.length = (l6 C).length := by show (P6 _ _).length = _; simp [P6]
  have hn' : n < (l6 C).length := by omega
  show (P6 _ _).getD n KU0 = _
  simp [P6, l_s, l7, hn', a2j]
 constructor
 case flg =>
  intro n hn
  show a0N _ n ((z8 C).K.getD n KU0)
  rw [hK n hn]
  unfold a0N
  simp only
  split <;> simp <;> omega
 case own =>
  intro n hn h
  rw [a1a hn] at h
  have := hK n hn
  rw [show (⟨z8 C, []⟩ : Wk).s.K = (z8 C).K from rfl, this] at h
  simp only at h
  split at h <;> omega
 case led => exact ⟨rfl, rfl, rfl, rfl, rfl⟩
 case cls => exact List.Pairwise.nil
 case msg => intro m hm; cases hm
 case tim => intro m hm; cases hm
 all_goals (intro i hi; exact absurd hi (by simp [z8]))
end
end
section
set_option maxHeartbeats 16000000
def Led.sum (x : Led) : Int := x.a + x.b + x.c + x.d + x.e
def okL (n : Int) : Prop := -1125899906842624 ≤ n ∧ n ≤ 1125899906842624
def Led.ok (x : Led) : Prop := okL x.a ∧ okL x.b ∧ okL x.c ∧ okL x.d ∧ okL x.e
def b9g (r : Ret) : Prop := 6 ≤ r.state ∧ r.state ≤ 9
def told (r : Ret) : Int := r.paid + r.credd + r.given
structure Aud (D : Cfg) (U : List Unt) (s : Sag) : Prop where
 cfg : C8 D
 sh : b3g U
 ul : U.length ≤ 200
 led : s.led.ok
 rl : s.R.length ≤ 100
 rr : ∀ r ∈ s.R, r.right ∧ ∀ v ∈ r.us, v < U.length
 kl : s.K.length ≤ 200
 ol : s.O.length < 1000000
theorem Aud.len {D : Cfg} {U : List Unt} {s : Sag} (W : Aud D U s) : ∀ r ∈ s.R, r.us.length < 1000000 ∧ r.gs.length < 1000000 := fun r hr => by
 have h := (W.rr r hr).1.2.2.2.2.2.2.2.1
 have h1 := h.1.2
 have h2 := h.2.1
 omega
theorem b4U (x : j0) (h : c9) : d8 Tryz.prog 22 [.agg x.enc.toArray] h fun v h' => v = .bool (dcd (b9g x.r)) ∧ Fr h h' [] := by
 have S := St.nil h
 refine EN i22.eq_1 fun K hK => Wa ?_
 (revert S; (try clear F); refine AL fun b h S F => ?_)
 by_cases h1 : 6 ≤ x.r.state
 ·by_cases h2 : x.r.state ≤ 9
  ·refine We F @j0.enc.eq_1 h1 h2 ?_
   exact hK _ _ ⟨by rw [dT ⟨h1, h2⟩], S.fr⟩
  ·refine We F @j0.enc.eq_1 h1 h2 ?_
   exact hK _ _ ⟨by rw [dF fun h => h2 h.2], S.fr⟩
 ·refine Wd F @j0.enc.eq_1 h1 ?_
  exact hK _ _ ⟨by rw [dF fun h => h1 h.1], S.fr⟩
section
variable {h0 h : c9} {l : List HP} {p : Nat} {D : Cfg} {s : Sag} {U : List Unt} {A : Option Addr} {c : Nat}
theorem sAa (S : St h0 h l) (hm : a7l D (.slice A U.length c) U ∈ l) : D.rd h ∧ Arr Unt.enc 4 h A U := by
 obtain ⟨h1, A', c', e, h2⟩ := b8u S hm
 cases e
 exact ⟨h1, h2⟩
end
end
section
set_option maxHeartbeats 16000000
section
variable {h0 h : c9} {l : List HP} {p : Nat} {D : Cfg} {s : Sag} {U : List Unt} {u : Value}
end
end
section
set_option maxHeartbeats 4000000
structure Loc where
 p : Nat
 k : Nat
 t : Nat
 o : Nat
 A : Option Addr
 c : Nat
def wkA (L : Loc) (D : Cfg) (u : Value) (w : Wk) : HP := exA fun x : Value × List j0 => a0X (b0V (x.2.map j0.r = w.s.R) :: f8 L.p (n7 D u L.k L.t L.o (.slice L.A w.s.R.length L.c) x.1 w.s) 84 :: t6 L.k w.s.K :: C7 L.t w.s.T :: A9 L.o w.s.key w.s.O ::
 f9 j0.enc 14 59 (.slice L.A w.s.R.length L.c) x.2 :: f9 Msg.enc 6 44 x.1 w.sd :: x.2.map j7)
section
variable {h0 h : c9} {l : List HP} {L : Loc} {D : Cfg} {u : Value} {w : Wk} {U : List Unt}
theorem St.wk : St h0 h (wkA L D u w :: l) ↔ ∃ (sd : Value) (vs : List j0), vs.map j0.r = w.s.R ∧ St h0 h (f8 L.p (n7 D u L.k L.t L.o (.slice L.A w.s.R.length L.c) sd w.s) 84 :: t6 L.k w.s.K :: C7 L.t w.s.T :: A9 L.o w.s.key w.s.O ::
  f9 j0.enc 14 59 (.slice L.A w.s.R.length L.c) vs :: f9 Msg.enc 6 44 sd w.sd :: (vs.map j7 ++ l)) := by
 rw [wkA, St.ex]
 constructor
 ·rintro ⟨⟨sd, vs⟩, S⟩
  obtain ⟨hv, S⟩ := St.pure.1 (St.stars.1 S)
  exact ⟨sd, vs, hv, S⟩
 ·rintro ⟨sd, vs, hv, S⟩
  exact ⟨⟨sd, vs⟩, St.stars.2 (St.pure.2 ⟨hv, S⟩)⟩
theorem St.wkCell (S : St h0 h (wkA L D u w :: l)) : ∃ sd M, St h0 h (f8 L.p (n7 D u L.k L.t L.o (.slice L.A w.s.R.length L.c) sd w.s) 84 :: M) ∧
  ∀ h' (s' : Sag), s'.K = w.s.K → s'.R = w.s.R → s'.T = w.s.T → s'.key = w.s.key → s'.O = w.s.O → St h0 h' (f8 L.p (n7 D u L.k L.t L.o (.slice L.A w.s.R.length L.c) sd s') 84 :: M) → St h0 h' (wkA L D u { w with s := s' } :: l) := by
 obtain ⟨sd, vs, hv, S⟩ := St.wk.1 S
 refine ⟨sd, _, S, fun h' s' e1 e2 e3 e4 e5 S' => St.wk.2 ⟨sd, vs, ?_, ?_⟩⟩
 ·rw [hv]; exact e2.symm
 ·simp only [e1, e2, e3, e4, e5]
  exact S'
theorem St.wkStock (S : St h0 h (wkA L D u w :: l)) : ∃ M, St h0 h (t6 L.k w.s.K :: M) ∧ ∀ h' K', St h0 h' (t6 L.k K' :: M) → St h0 h' (wkA L D u { w with s := { w.s with K := K' } } :: l) := by
 obtain ⟨sd, vs, hv, S⟩ := St.wk.1 S
 exact ⟨_, S.p1, fun h' K' S' => St.wk.2 ⟨sd, vs, hv, S'.p1⟩⟩
theorem St.wkTim (S : St h0 h (wkA L D u w :: l)) : ∃ M, St h0 h (C7 L.t w.s.T :: M) ∧ ∀ h' T', St h0 h' (C7 L.t T' :: M) → St h0 h' (wkA L D u { w with s := { w.s with T := T' } } :: l) := by
 obtain ⟨sd, vs, hv, S⟩ := St.wk.1 S
 exact ⟨_, S.p2, fun h' T' S' => St.wk.2 ⟨sd, vs, hv, S'.p2.p2⟩⟩
theorem St.wkObx (S : St h0 h (wkA L D u w :: l)) : ∃ M, St h0 h (A9 L.o w.s.key w.s.O :: M) ∧ ∀ h' key' O', St h0 h' (A9 L.o key' O' :: M) → St h0 h' (wkA L D u { w with s := { w.s with key := key', O := O' } } :: l) := by
 obtain ⟨sd, vs, hv, S⟩ := St.wk.1 S
 exact ⟨_, S.p3, fun h' key' O' S' => St.wk.2 ⟨sd, vs, hv, S'.p3.p3.p3⟩⟩
theorem St.wkRet {b i : Nat} (S : St h0 h (wkA L D u w :: l)) (hA : L.A = some ⟨b, 0, none⟩) (hi : i < w.s.R.length) :
  ∃ x : j0, x.r = w.R i ∧ (∀ j, j < 14 → rd1 h (.pointer (some ⟨b, i * 14 + j, none⟩)) = x.enc[j]?) ∧ rdN h b (i * 14) 14 = some x.enc ∧ Arr j4 1 h x.A x.r.us ∧ Arr j4 1 h x.B x.r.gs := by
 obtain ⟨sd, vs, hv, S⟩ := St.wk.1 S
 have hil : i < vs.length := by rw [← hv, l_z] at hi; exact hi
 have e : vs[i].r = w.R i := by
  unfold Wk.R
  rw [← hv, l_s, a1R, l_r hil]
  rfl
 have S4 := S.p4
 rw [hA] at S4
 obtain ⟨b', o', hb, q⟩ := (S4.arr j0.enc_len).at hil
 cases hb
 have hr := O1 S (x := vs[i]) (by simp only [l_e, l_y]; exact .inr (.inr (.inr (.inr (.inr (.inr (.inl (a3r (l_v hil)))))))))
 refine ⟨vs[i], e, fun j hj => E6 j0.enc_len S4 hil hj, ?_, hr.1, hr.2⟩
 rw [Nat.zero_add] at q
 exact q
theorem Q5 {b i j : Nat} {v : Value} {r' : Ret} {K : Value → c9 → Prop} {s : Tag h} {t : Tag K} (S : St h0 h (wkA L D u w :: l)) (hA : L.A = some ⟨b, 0, none⟩) (hi : i < w.s.R.length) (hj : j < 14) (hp : pC [v] = true)
  (hu : r'.us = (w.R i).us) (hg : r'.gs = (w.R i).gs) (hx : ∀ x : j0, x.r = w.R i → j0.enc { x with r := r' } = t7 x.enc j [v]) (hk : ∀ h', St h0 h' (wkA L D u (w.put i r') :: l) → K undef h') : Q8 1 (.pointer (some ⟨b, i * 14 + j, none⟩)) [v] h K s t := by
 obtain ⟨sd, vs, hv, S⟩ := St.wk.1 S
 have hl : vs.length = w.s.R.length := by rw [← hv, l_z]
 have hil : i < vs.length := by omega
 have e : vs[i].r = w.R i := by
  unfold Wk.R
  rw [← hv, l_s, a1R, l_r hil]
  rfl
 have S4 := S.p4
 rw [hA] at S4
 refine D9 j0.enc_len (i := i) (j := j) (x := { vs[i] with r := r' }) S4 hil rfl (by simp; omega) rfl hp (hx _ e) ?_
 intro h' S'
 rw [← hA] at S'
 refine hk _ (St.wk.2 ⟨sd, vs.set i { vs[i] with r := r' }, ?_, ?_⟩)
 ·rw [List.map_set, hv]; rfl
 ·have e1 : (vs.set i { vs[i] with r := r' }).map j7 = vs.map j7 := by
   rw [List.map_set]
   have : j7 { vs[i] with r := r' } = (vs.map j7)[i]'(by rw [l_z]; exact hil) := by
    rw [W4]
    unfold j7
    simp only [hu, hg, e]
   rw [this, List.set_getElem_self]
  have e2 : (w.put i r').s.R.length = w.s.R.length := v9
  rw [e1]
  show St h0 h' (f8 L.p (n7 D u L.k L.t L.o (.slice L.A (w.put i r').s.R.length L.c) sd (w.put i r').s) 84 :: _ :: _ :: _ :: f9 j0.enc 14 59 (.slice L.A (w.put i r').s.R.length L.c) _ :: _)
  rw [e2]
  exact S'.p4.p4.p4.p4
end
end
end Go.Proofs.YtcgbhcgfdcfmaaaGreat.MX
