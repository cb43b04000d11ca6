import Derived.Test.YtjagmebglhbdkaaGreatK23
import Derived.Test.YtjagmebglhbdkaaGreatK21
import Derived.Test.YtjagmebglhbdkaaGreatK28
namespace Go.Proofs.YtjagmebglhbdkaaGreat.MX
open Go Go.Proofs
set_option linter.unusedSimpArgs false
set_option linter.unusedVariables false
section
set_option maxHeartbeats 8000000
def a3c (u : Unt) : Int := if u.ord < 0 then 3 else 0
noncomputable def E6 (C : Cfg) : Sag := ⟨S9 ((j7 C).map Unt.sku) ((j7 C).map a3c), ⟨0, 0, 0, 0, 0⟩, [], [], 1, [], 0⟩
theorem map_set {U : List Unt} (f : Unt → Int) {i : Nat} (hi : i < U.length) : ((U.take i).map f ++ List.replicate (U.length - i) 0).set i (f U[i]) = (U.take (i + 1)).map f ++ List.replicate (U.length - (i + 1)) 0 := by
 rw [a5P _ _ (by rw [l_z, v5]; omega), l_z, v5, Nat.min_eq_left (by omega), Nat.sub_self, show U.length - i = U.length - (i + 1) + 1 by omega, List.replicate_succ, l_h, l_t hi, M7, l_q]
 rfl
theorem b4n {U : List Unt} (f : Unt → Int) {i : Nat} (hi : i ≤ U.length) : ((U.take i).map f ++ List.replicate (U.length - i) (0 : Int)).length = U.length := by
 rw [l_m, l_z, v5, G1]; omega
section
variable {h0 h : c9} {l : List HP}
theorem c0y {A : Option Addr} {c : Nat} {U : List Unt} (S : St h0 h l) (ha : ∀ h', St h0 h' l → Arr Unt.enc 4 h' A U) (hl : U.length < 1000000) :
  d8 Tryz.prog 39 [.slice A U.length c] h fun v h' => St h0 h' (f8 i8 1 3 v (U.map Unt.sku) :: l) := by
 refine EN i39.eq_1 fun K hK => Wa ?_
 refine a0w (0 : Int) zEl rfl S (by omega) (by omega) ?_
 clear S
 intro w h S
 obtain ⟨B, d, rfl⟩ := S.sl
 rw [G1] at S ⊢
 refine Wa ?_
 refine lI (fun ρ h' => ρ 3 = .slice B U.length d ∧ ρ 9 = .slice A U.length c ∧ ρ 10 = .int .i64 U.length ∧ ∃ i : Nat, ρ 11 = .int .i64 i ∧ i ≤ U.length ∧
  St h0 h' (f8 i8 1 3 (.slice B U.length d) ((U.take i).map Unt.sku ++ List.replicate (U.length - i) 0) :: l)) (fun ρ _ => U.length - (iv (ρ 11)).toNat) ?_ ?_
 ·refine Wa ?_
  exact ⟨0, rfl, by omega, S⟩
 clear S
 rintro ρ h J hJ ⟨e3, e9, e10, i, e11, hi, S⟩
 refine Wc e10 e11 ?_
 refine cD (fun hlt => ?_) (fun hlt => ?_)
 ·have hil : i < U.length := by omega
  obtain ⟨b1, o1, rfl, q1⟩ := (ha _ S.tl).at hil
  have hset := map_set Unt.sku hil
  have hlen := b4n Unt.sku hi
  generalize U[i] = x at *
  refine Wd e9 e11 q1 ?_
  (revert S; (try clear F); refine AL fun q h S F => ?_)
  refine Wc F @Unt.enc.eq_1 ?_
  (revert S; (try clear F); refine ST fun h S F => ?_)
  obtain ⟨b, rfl⟩ := S.p1.ownAt (by omega)
  refine Wd e3 e11 F ?_
  refine v4 zEl (i := i) (x := x.sku) S.p1 (by omega) (by rw [n6]; try rfl) rfl rfl rfl ?_
  clear S F q1
  intro h S
  rw [hset] at S
  refine Wb e11 ?_
  refine hJ _ _ ?_ ?_
  ·refine Wd e3 e9 e10 ?_
   exact ⟨i + 1, rfl, by omega, S.d1⟩
  ·refine Wb e11 ?_
   omega
 obtain rfl : i = U.length := by omega
 rw [Nat.sub_self, List.replicate_zero, D6, C8] at S
 refine Wb e3 ?_
 exact hK _ _ S
theorem c1q (C : Cfg) (r : ∀ h', St h0 h' l → C.rd h') (w : C.wf) (l1 : C.os.length < 1000000) (l2 : C.ss.length < 1000000) (l3 : C.ps.length < 1000000) (l4 : ∀ o ∈ C.os, o.ls.length < 1000000) (S : St h0 h l) :
  d8 Tryz.prog 11 [.agg C.enc.toArray] h fun v h' => (¬ J9 C ∧ v = .tuple #[.pointer none, .int .i64 1] ∧ St h0 h' l) ∨
   (J9 C ∧ ∃ p D u, v = .tuple #[.pointer (some ⟨p, 0, none⟩), .int .i64 0] ∧ D.wf ∧ D.pu = C.pu ∧ St h0 h' (D5 p D u (E6 C) :: a5S D u (j7 C) :: l)) := by
 refine EN i11.eq_1 fun K hK => Wa ?_
 (revert S; (try clear F); refine AL fun g h S F => ?_)
 refine Wc F @Cfg.enc.eq_1 ?_
 rw [show [Value.slice C.A1 C.os.length C.c1, .slice C.A2 C.ss.length C.c2, .slice C.A3 C.ps.length C.c3] = C.enc from rfl]
 refine cI (b4Y C (fun h' S => r h' S.tl) w l1 l2 l3 l4 S) ?_
 clear S F
 rintro _ h (⟨hok, rfl, S⟩ | ⟨hok, u, rfl, S⟩)
 ·refine Wa ?_
  exact hK _ _ (.inl ⟨hok, rfl, S.tl⟩)
 obtain ⟨A, c, rfl⟩ := S.sl
 obtain ⟨_, hul⟩ := a4m hok
 obtain ⟨U, hU⟩ : ∃ U, U = j7 C := ⟨_, rfl⟩
 rw [← hU] at S hul ⊢
 refine Wa ?_
 refine a0w (0 : Int) zEl rfl S (by omega) (by omega) ?_
 clear S
 intro w' h S
 obtain ⟨B, d, rfl⟩ := S.sl
 rw [G1] at S ⊢
 refine Wa ?_
 refine lI (fun ρ h' => ρ 1 = .pointer (some ⟨g, 0, none⟩) ∧ ρ 4 = .slice A U.length c ∧ ρ 6 = .slice B U.length d ∧ ρ 20 = .slice A U.length c ∧ ρ 21 = .int .i64 U.length ∧ ∃ i : Nat, ρ 22 = .int .i64 i ∧ i ≤ U.length ∧
  St h0 h' (f8 i8 1 3 (.slice B U.length d) ((U.take i).map a3c ++ List.replicate (U.length - i) 0) :: f8 Unt.enc 4 97 (.slice A U.length c) U :: d9 g C.enc 26 :: l)) (fun ρ _ => U.length - (iv (ρ 22)).toNat) ?_ ?_
 ·refine Wa ?_
  exact ⟨0, rfl, by omega, S⟩
 clear S
 rintro ρ h J hJ ⟨e1, e4, e6, e20, e21, i, e22, hi, S⟩
 refine Wc e21 e22 ?_
 refine cD (fun hlt => ?_) (fun hlt => ?_)
 ·have hil : i < U.length := by omega
  obtain ⟨b1, o1, rfl, q1⟩ := (S.p1.arr Unt.enc_len).at hil
  have hset := map_set a3c hil
  have hlen := b4n a3c hi
  have hsame : U[i].ord < 0 ∨ ((U.take i).map a3c ++ List.replicate (U.length - i) 0) = (U.take (i + 1)).map a3c ++ List.replicate (U.length - (i + 1)) 0 := by
   by_cases hx : U[i].ord < 0
   ·exact .inl hx
   ·refine .inr ?_
    have : a3c U[i] = 0 := if_neg hx
    rw [l_t hil, M7, l_q, show U.length - i = U.length - (i + 1) + 1 by omega, List.replicate_succ]
    simp [this]
  generalize U[i] = x at *
  refine Wd e20 e22 q1 ?_
  (revert S; (try clear F); refine AL fun q h S F => ?_)
  refine Wc F @Unt.enc.eq_1 ?_
  (revert S; (try clear F); refine ST fun h S F => ?_)
  by_cases hx : x.ord < 0
  ·obtain ⟨b, rfl⟩ := S.p1.ownAt (by omega)
   refine We e6 e22 F hx ?_
   refine v4 zEl (i := i) (x := 3) S.p1 (by omega) (by rw [n6]; try rfl) rfl rfl rfl ?_
   clear S F q1
   intro h S
   rw [show (3 : Int) = a3c x by rw [a3c, if_pos hx], hset] at S
   refine Wb e22 ?_
   refine hJ _ _ ?_ ?_
   ·refine Wf e1 e4 e6 e20 e21 ?_
    exact ⟨i + 1, rfl, by omega, S.d1⟩
   ·refine Wb e22 ?_
    omega
  ·rw [hsame.resolve_left hx] at S
   refine Wd e22 F hx ?_
   refine hJ _ _ ?_ ?_
   ·refine Wf e1 e4 e6 e20 e21 ?_
    exact ⟨i + 1, rfl, by omega, S.tl⟩
   ·refine Wb e22 ?_
    omega
 obtain rfl : i = U.length := by omega
 rw [Nat.sub_self, List.replicate_zero, D6, C8] at S
 clear hJ e20 e21 e22
 refine Wb e4 ?_
 refine cI (c0y S (fun h' S => S.p1.arr Unt.enc_len) (by omega)) ?_
 clear S
 intro v h S
 obtain ⟨Ak, ck, rfl⟩ := S.sl
 refine Wb e6 ?_
 have hn : U.length = (U.map a3c).length := (l_z ..).symm
 have hn2 : (U.map Unt.sku).length = U.length := l_z ..
 have hcall := c1T (A := Ak) (B := B) (c := ck) (d := d) (sk := U.map Unt.sku) (at_ := U.map a3c) S (fun h' S => S.arr zEl) (fun h' S => by have S1 := S.p1; rw [hn] at S1; exact S1.arr zEl) (by rw [hn2]; omega) (by rw [← hn]; omega)
 rw [← hn] at hcall
 refine cI hcall ?_
 clear S hcall
 have hokA : okAt (U.map a3c) := fun q hq => by
  obtain ⟨x, _, rfl⟩ := List.mem_map.1 hq
  unfold a3c
  split <;> omega
 rintro _ h (⟨hbad, _⟩ | ⟨_, k, rfl, S⟩)
 ·exact (hbad ⟨by rw [hn2], by rw [hn2]; exact hul, hokA⟩).elim
 have S := S.d1.d1
 ((try clear F); have F := S.fx)
 refine Wc e1 F ?_
 refine cI (b1w C (fun h' S => r h' S.tl.tl.tl) hok S) ?_
 clear S F
 rintro _ h ⟨D, rfl, hw, hp, S⟩
 refine Wc e4 @Cfg.enc.eq_1 ?_
 (revert S; (try clear F); refine AL fun t h S F => ?_)
 have S := c0C S
 refine Wa ?_
 refine cI (c0Y S) ?_
 clear S F
 rintro _ h ⟨o, rfl, S⟩
 refine Wb @Cfg.enc.eq_1 ?_
 (revert S; (try clear F); refine AL fun p h S F => ?_)
 refine Wa ?_
 refine hK _ _ (.inr ⟨hok, p, D, .slice A U.length c, rfl, hw, hp, ?_⟩)
 have S : St h0 h (a3i (.slice none 0 0) [] :: _) := St.rmas.2 ⟨[], rfl, S.nilS⟩
 have S := St.star.2 (S.p7.tl.p6.p5)
 rw [hU] at S ⊢
 have S : St h0 h (a5S D (.slice A (j7 C).length c) (j7 C) :: a3i (.slice none 0 0) (E6 C).R :: d9 p (t6 D (.slice A (j7 C).length c) k t o (.slice none 0 0) (.slice none 0 0) (E6 C)) 113 :: E0 o (E6 C).key (E6 C).O :: H0 t (E6 C).T :: v6 k (E6 C).K :: l) := S
 exact St.saga.2 ⟨k, t, o, .slice none 0 0, by (exact PM S) ⟩
end
end
section
def a8g (now : Int) (m : Msg) : Msg := if m.due > now then m else m.bump now
def a9g (now : Int) (m : Msg) : Bool := decide (m.due > now) || !decide (m.kind = 1 ∧ m.tries ≥ 5)
def a3f (ss : List Sup) (U : List Unt) (w : Wk) (days : Int) : Wk × List Msg :=
 let now := w.s.now + days
 let w1 := ((O4 w.s.T now).map Tm.num).foldl (O9 ss U) { w with s := { w.s with now := now, T := N7 w.s.T now } }
 ((v9 now w1.s.O).foldl (fun w m => M8 w (m.rma - 1).toNat 8) { w1 with s := { w1.s with O := y7 now w1.s.O } }, x8 now w1.s.O)
section
variable {D : Cfg} {U : List Unt} {w W : Wk} {e i j m : Nat} {q s : Int} {r : Ret} {K : List KU} {O : List Msg}
theorem a9S (now : Int) : ∀ l : List Msg, y7 now l = (l.filter (a9g now)).map (a8g now)
 | [] => rfl
 | x :: l => by
  have ih := a9S now l
  simp only [y7, W5, List.filter_cons] at ih ⊢
  rw [ih]
  unfold K1 a9g a8g
  split
  ·simp [*]
  ·split <;> simp [*]
theorem Z8 {now : Int} {l : List Msg} {x : Msg} (h : x ∈ v9 now l) : x ∈ l ∧ x.kind = 1 := by
 obtain ⟨y, hy, hx⟩ := List.mem_flatMap.1 h
 unfold F4 at hx
 split at hx
 ·cases hx
 ·split at hx
  ·obtain rfl := List.mem_singleton.1 hx
   rename_i h1
   exact ⟨hy, h1.1⟩
  ·cases hx
theorem a5r (now : Int) : ∀ l : List Msg, (v9 now l).Sublist l
 | [] => List.Sublist.refl _
 | x :: l => by
  have ih := a5r now l
  simp only [v9, W5] at ih ⊢
  unfold F4
  split
  ·exact ih.cons _
  ·split
   ·exact ih.cons_cons _
   ·exact ih.cons _
theorem c3d (ss : List Sup) (w : Wk) (i : Nat) : (a1S ss w i).s.T = w.s.T := by
 have hc : ∀ v : Wk, (x9 v i).s.T = v.s.T := fun v => by unfold x9; split <;> rfl
 have hp : ∀ (v : Wk) s, (N2 v i s).s.T = v.s.T := fun v s => by unfold N2; split; rfl; split <;> rfl
 have hr : (j2 w i).s.T = w.s.T := by unfold j2; split <;> rfl
 unfold a1S
 rw [hc]
 split
 ·split
  ·rw [hp, hr]
  ·rw [hp]; rfl
 ·rw [hp]
theorem c2s (ss : List Sup) (w : Wk) (n : Int) : ∀ x ∈ (O9 ss U w n).s.T, x ∈ w.s.T := by
 intro x hx
 unfold O9 at hx
 simp only at hx
 split at hx
 ·unfold a3h L8 at hx
  rw [c3d, J6] at hx
  exact hx
 ·split at hx
  ·unfold M8 at hx
   have := (N5 hx).1
   unfold j2 at this
   split at this <;> exact this
  ·exact hx
theorem a2A (hD : Stc D U) : ∀ {l : List Int} {w : Wk} {m : Nat}, Inv D U w 1000 0 → w.wf U m → l.Nodup → (∀ n ∈ l, (1 ≤ n ∧ n ≤ w.s.R.length) ∧ ∀ x ∈ w.s.T, x.num ≠ n) →
  M2 (a1t D.ss U) w l = .ok (l.foldl (O9 D.ss U) w) ∧ Inv D U (l.foldl (O9 D.ss U) w) 1000 0 ∧ (l.foldl (O9 D.ss U) w).wf U (m + 2 * l.length)
 | [], w, m, I, Wf, _, _ => ⟨rfl, I, Wf⟩
 | n :: l, w, m, I, Wf, hn, h => by
  obtain ⟨h1, h2⟩ := h n (by simp)
  obtain ⟨a, b, c, d⟩ := b4o hD I Wf h1 h2
  rw [List.nodup_cons] at hn
  obtain ⟨e, f, g⟩ := a2A hD (l := l) b c hn.2 (fun k hk => by
   have := h k (by simp [hk])
   exact ⟨by omega, fun x hx => this.2 x (c2s _ _ _ x hx)⟩)
  refine ⟨by rw [M2, a]; exact e, f, ?_⟩
  rw [l_f, show m + 2 * (l.length + 1) = m + 2 + 2 * l.length by omega]
  exact g
theorem a6l : ∀ {l : List Msg} {w : Wk} {m : Nat}, Inv D U w 1000 0 → w.wf U m → l.Pairwise (fun a b => a.rma ≠ b.rma) → (∀ x ∈ l, (1 ≤ x.rma ∧ x.rma ≤ w.s.R.length) ∧ (w.R (x.rma - 1).toNat).state = 1) →
  M2 (fun w (x : Msg) => L6 w x.rma 8) w l = .ok (l.foldl (fun w x => M8 w (x.rma - 1).toNat 8) w) ∧ Inv D U (l.foldl (fun w x => M8 w (x.rma - 1).toNat 8) w) 1000 0
 | [], w, m, I, Wf, _, _ => ⟨rfl, I⟩
 | n :: l, w, m, I, Wf, hn, h => by
  obtain ⟨h1, h2⟩ := h n (by simp)
  obtain ⟨a, b, c, d, e⟩ := a4d (i := (n.rma - 1).toNat) (st := 8) I Wf (by omega) (.inl h2) (by decide)
  rw [show (((n.rma - 1).toNat : Nat) : Int) + 1 = n.rma by omega] at a
  rw [List.pairwise_cons] at hn
  obtain ⟨f, g⟩ := a6l (l := l) b c hn.2 (fun x hx => by
   have h3 := h x (by simp [hx])
   have h4 := hn.1 x hx
   refine ⟨by omega, ?_⟩
   rw [e, if_neg (by omega)]
   exact h3.2)
  exact ⟨by rw [M2, a]; exact f, g⟩
theorem b0G (hD : Stc D U) {days : Int} (I : Inv D U w 1000 0) (Wf : w.wf U m) (hd : ¬ (days < 1 ∨ 1000 < days)) (hn : ¬ 100000 < w.s.now + days) :
  a1R D.ss U w days = .ok (a3f D.ss U w days) ∧ Inv D U (a3f D.ss U w days).1 1000 0 := by
 have hnow := Wf.now
 obtain ⟨now, hno⟩ : ∃ now, now = w.s.now + days := ⟨_, rfl⟩
 obtain ⟨w0, hw0⟩ : ∃ w0 : Wk, w0 = { w with s := { w.s with now := now, T := N7 w.s.T now } } := ⟨_, rfl⟩
 have hTT : w.s.T = O4 w.s.T now ++ N7 w.s.T now := (List.takeWhile_append_dropWhile).symm
 have hall := Wf.tg.2
 rw [hTT, a1g] at hall
 have I0 : Inv D U w0 1000 0 := a2l I (f := id) (p := fun _ => true) (by rw [hw0]) (by rw [hw0]) (by rw [hw0]) (fun x hx => by rw [hw0] at hx; exact (List.dropWhile_sublist _).subset hx) (fun _ => ⟨rfl, rfl, rfl⟩) (fun _ _ h => by simp at h) (by rw [hw0, List.map_id, List.filter_eq_self.2 (fun _ _ => rfl)])
 have W0 : w0.wf U m := by rw [hw0]; exact Wf.late (by omega)
 obtain ⟨a, b, c⟩ := a2A hD (l := (O4 w.s.T now).map Tm.num) I0 W0 (by
  rw [List.Nodup, List.pairwise_map]
  exact hall.1) (fun n hn => by
   obtain ⟨y, hy, rfl⟩ := List.mem_map.1 hn
   have h1 := Wf.tn y (by rw [hTT]; exact X6 _ hy)
   refine ⟨by rw [hw0]; exact h1, fun x hx he => ?_⟩
   rw [hw0] at hx
   exact hall.2.2 y hy x hx he.symm)
 obtain ⟨w1, hw1⟩ : ∃ w1, w1 = ((O4 w.s.T now).map Tm.num).foldl (O9 D.ss U) w0 := ⟨_, rfl⟩
 rw [← hw1] at a b c
 obtain ⟨w2, hw2⟩ : ∃ w2 : Wk, w2 = { w1 with s := { w1.s with O := y7 now w1.s.O } } := ⟨_, rfl⟩
 have I2 : Inv D U w2 1000 0 := a2l b (f := a8g now) (p := a9g now) (by rw [hw2]) (by rw [hw2]) (by rw [hw2]) (fun x hx => by rw [hw2] at hx; exact hx) (fun x => by unfold a8g; split <;> exact ⟨rfl, rfl, rfl⟩) (fun x _ h => by unfold a9g at h; simp at h; exact h.2.1) (by rw [hw2]; exact a9S _ _)
 have W2 := c.left now
 rw [← hw2] at W2
 have hg : (v9 now w1.s.O).Pairwise (fun a b => a.rma ≠ b.rma) := by
  have := b.cls.sublist (a5r now w1.s.O)
  rw [List.pairwise_iff_forall_sublist] at this ⊢
  intro x y hxy he
  have hx := (Z8 (hxy.subset (by simp : x ∈ [x, y]))).2
  have hy := (Z8 (hxy.subset (by simp : y ∈ [x, y]))).2
  exact this hxy ⟨by omega, .inl ⟨.inl hx, he⟩⟩
 obtain ⟨f, g⟩ := a6l (l := v9 now w1.s.O) I2 W2 hg (fun x hx => by
  obtain ⟨h1, h2⟩ := Z8 hx
  have h3 := b.msg x h1
  rw [hw2]
  exact ⟨h3.rma, h3.k1 h2⟩)
 unfold a1R a3f
 rw [if_neg hd, if_neg hn]
 simp only [← hno, ← hw0, ← hw1, ← hw2]
 rw [a]
 simp only [Except.bind, ← hw2]
 rw [f]
 exact ⟨rfl, g⟩
theorem b1T {α : Type} {f : α → Int} : ∀ {l : List α}, a0o f l = 0 → ∀ x ∈ l, f x = 0
 | [], _, x, h => absurd h (by simp)
 | y :: l, h, x, hx => by
  unfold a0o at h
  split at h
  ·rcases List.mem_cons.1 hx with rfl | hx
   ·assumption
   ·exact b1T h x hx
  ·rename_i h1; exact absurd h h1
theorem a8L {sku : Int} {n : Nat} (h : a1Q K sku = some n) : n < K.length ∧ (K.getD n KU0).place = 3 ∧ (K.getD n KU0).sku = sku := by
 unfold a1Q at h
 rw [a7Z] at h
 obtain ⟨h1, h2, _⟩ := h
 have := of_decide_eq_true h2
 rw [l_s, l_r h1]
 exact ⟨h1, this⟩
theorem c0Z (hD : Stc D U) {c : Cmd} {x : Int × Wk} (I : Inv D U w 1000 0) (Wf : w.wf U m) (hc : c.formed) (h1 : c.kind = 1) (h : E1 D.ps D.os D.ss U w c = .ok x) : Inv D U x.2 1000 0 := by
 have hf := hc.1
 unfold Cmd.fits at hf
 rw [if_pos h1] at hf
 have W2 := a1y hD.ul (by have := hf.1; omega) h Wf
 have hw := hf.2.2.2.1
 unfold btw at hw
 unfold E1 at h
 split at h
 ·cases h
 split at h
 ·cases h
 split at h
 ·cases h
 rename_i hlen hord hask
 obtain ⟨y, hy, rfl⟩ := t7 h
 unfold O0 at hask
 split at hask
 ·exact absurd hask (by simp)
 split at hask
 ·exact absurd hask (by simp)
 rename_i hu hrea
 have hunit : ∀ k, k < c.us.length → E2 U c k := n9 (by cases hd : dcd (∀ i, i < c.us.length → E2 U c i) with | false => exact absurd hd hu | true => rfl)
 have hware : ∀ u ∈ c.us, i9 w.s.K u = 0 ∧ K5 w.s u ≤ 0 := fun u hu => by
  have := b1T (Classical.not_not.1 hask) u hu
  unfold F7 at this
  split at this
  ·simp at this
  ·omega
 have hnow := Wf.now
 have hy2 : y.2.s.R = w.s.R ∧ y.2.s.O = w.s.O ∧ y.2.s.T = w.s.T ∧ y.2.s.led = w.s.led ∧ y.2.s.now = w.s.now ∧ (y.1 = -1 ∧ y.2.s.K = w.s.K ∨ ∃ n : Nat, n < w.s.K.length ∧ y.1 = n ∧ i9 w.s.K n = 3 ∧ y.2.s.K = w.s.K.set n { w.s.K.getD n KU0 with place := 7 } ∧ (s9 D.ss c.want).isSome = true) := by
  unfold V4 at hy
  split at hy
  ·cases hy; exact ⟨rfl, rfl, rfl, rfl, rfl, .inl ⟨rfl, rfl⟩⟩
  ·split at hy
   ·cases hy
   ·rename_i p hp
    split at hy
    ·cases hy
    ·rename_i n hn
     cases hy
     obtain ⟨n1, n2, _⟩ := a8L hn
     exact ⟨rfl, rfl, rfl, rfl, rfl, .inr ⟨n, n1, rfl, by rw [a1l n1]; exact n2, rfl, by rw [hp]; rfl⟩⟩
 obtain ⟨y1, y2, y3, y4, y5, y6⟩ := hy2
 have hmem : ∀ u ∈ c.us, ∃ k, k < c.us.length ∧ c.us.getD k 0 = u := fun u hu => by
  obtain ⟨k, hk, rfl⟩ := V0 hu
  exact ⟨k, hk, l6 hk⟩
 have hds : ∀ j < w.s.R.length, (w.R j).state ≤ 5 → ∀ u ∈ c.us, u ∉ (w.R j).us := fun j hj h5 u hu hin => by
  have h1 := (hware u hu).2
  unfold K5 at h1
  cases hfd : w.s.R.find? fun r => !decide (6 ≤ r.state ∧ r.state ≤ 9) && r.us.contains u with
  | none =>
   rw [List.find?_eq_none] at hfd
   refine hfd _ (C2 hj) ?_
   rw [a1x, List.contains_iff_mem]
   exact ⟨by simp; omega, hin⟩
  | some r =>
   rw [hfd] at h1
   have hr := List.mem_of_find?_eq_some hfd
   obtain ⟨k, hk, rfl⟩ := V0 hr
   have := (I.ret k hk).num
   have e : w.R k = w.s.R[k] := by unfold Wk.R; rw [l_s, l_r hk]; rfl
   rw [e] at this
   simp only [Option.map_some, Option.getD_some] at h1
   omega
 have hRI : c1P D U w.s.R.length ⟨(w.s.R.length : Int) + 1, c.ord, c.rea, c.want, y.1, c.cred || c.us.any fun u => (C6 D.ps (j8 U u).cat).cre, 1, w.s.now, c.us, c.us.map fun _ => -1, 0, 0, 0, 0⟩ := by
  refine ⟨rfl, by simp only; omega, ⟨by simp only; omega, by simp only; omega⟩, by simp only; omega, hnow, by simp, fun u hu => ?_, fun _ _ _ g hg => ?_, fun h => by simp at h, fun h => by simp at h, ?_, by simp, fun _ _ => rfl⟩
  ·obtain ⟨k, hk, rfl⟩ := hmem u hu
   exact (hunit k hk).2.2.2
  ·obtain ⟨_, _, rfl⟩ := List.mem_map.1 hg; rfl
  ·exact (b9g (by simp) fun g hg => by obtain ⟨_, _, rfl⟩ := List.mem_map.1 hg; rfl).symm
 refine c2p (m := ⟨y.2.s.key, 1, (w.s.R.length : Int) + 1, 0, 1, y.2.s.now + 1⟩) I (by have := Wf.rl; omega) hRI rfl ⟨rfl, rfl⟩ (fun u hu => (hware u hu).1) hds y6 rfl ?_ ?_ y4
 ·show y.2.s.O ++ _ = _
  rw [y2]
 ·intro x hx
  have hx' : x ∈ setT y.2.s.T _ _ := hx
  rcases a6c hx' with h | h
  ·exact .inr h
  ·rw [y3] at h; exact .inl h
theorem b8I (hD : Stc D U) {sg : Sag} {c : Cmd} (I : Inv D U ⟨sg, []⟩ 1000 0) (Wf : sg.wf U m) : Inv D U ⟨(O6 D U sg c).2.2.2, []⟩ 1000 0 := by
 have hsd : ∀ {v : Wk}, Inv D U v 1000 0 → Inv D U ⟨v.s, []⟩ 1000 0 := fun {v} h => by
  obtain ⟨a, b, c, d, e, f, g, h, i, j, k, l, o, p⟩ := h
  exact ⟨a, fun m hm => ⟨(b m hm).1, (b m hm).2, (b m hm).3, (b m hm).4, (b m hm).5, (b m hm).6⟩, c, d, e, f, g, h, i, j, k, l, o, ⟨p.1, p.2, p.3, p.4, p.5⟩⟩
 have Wf' : Wk.wf U m ⟨sg, []⟩ := Wf
 unfold O6
 split
 ·exact I
 rename_i hd
 have hf : c.formed := n9 (by cases hd' : dcd c.formed with | false => exact absurd hd' hd | true => rfl)
 split
 ·exact I
 rename_i x hx
 simp only
 refine hsd ?_
 have hend : ∀ {n st : Int} {v : Wk}, 7 ≤ st ∧ st ≤ 9 → L6 ⟨sg, []⟩ n st = .ok v → Inv D U v 1000 0 := fun {n st v} hst h => by
  have h2 := h
  unfold L6 at h2
  split at h2
  ·cases h2
  ·rename_i r hr
   obtain ⟨i, e1, e2, hi, e3, _⟩ := Y6 hr
   split at h2
   ·cases h2
   ·rename_i st2 hn
    have h12 : r.state = 1 ∨ r.state = 2 := by unfold D8 at hn; grind
    obtain ⟨a, b, _⟩ := a4d (i := i) (st := st) I Wf' hi (by rw [e3]; exact h12) hst
    rw [e1, a] at h
    cases h
    exact b
 unfold doP at hx
 split at hx
 ·obtain ⟨z, hz, rfl⟩ := t7 hx; exact c0Z hD I Wf' hf (by assumption) hz
 split at hx
 ·obtain ⟨z, hz, rfl⟩ := t7 hx; exact hend (by decide) hz
 split at hx
 ·obtain ⟨z, hz, rfl⟩ := t7 hx; exact hend (by decide) hz
 split at hx
 ·obtain ⟨z, hz, rfl⟩ := t7 hx
  have h := hz
  unfold a2n H1 at h
  cases hat : (⟨sg, []⟩ : Wk).s.at_ c.rma with
  | none => rw [hat] at h; cases h
  | some r =>
   obtain ⟨i, e1, e2, hi, e3, _⟩ := Y6 hat
   rw [hat] at h
   cases hn : D8 r.state 2 with
   | none => simp only [hn] at h; cases h
   | some st =>
    obtain ⟨a, b⟩ := b1G I Wf' hi (by rw [e3]; unfold D8 at hn; grind)
    rw [e1, a] at hz
    cases hz
    exact b
 split at hx
 ·obtain ⟨z, hz, rfl⟩ := t7 hx
  have h := hz
  unfold N3 H1 at h
  cases hat : (⟨sg, []⟩ : Wk).s.at_ c.rma with
  | none => rw [hat] at h; cases h
  | some r =>
   obtain ⟨i, e1, e2, hi, e3, _⟩ := Y6 hat
   rw [hat] at h
   cases hn : D8 r.state 3 with
   | none => simp only [hn] at h; cases h
   | some st =>
    obtain ⟨a, b⟩ := a5G I Wf' hi (by rw [e3]; unfold D8 at hn; grind)
    rw [e1, a] at hz
    cases hz
    exact b
 split at hx
 ·obtain ⟨z, hz, rfl⟩ := t7 hx
  unfold T5 at hz
  split at hz
  ·cases hz
  ·rename_i r hr
   obtain ⟨i, e1, e2, hi, e3, _⟩ := Y6 hr
   split at hz
   ·cases hz
   ·rename_i h4
    split at hz
    ·cases hz
    ·rename_i k hk
     split at hz
     ·cases hz
     ·rename_i hg4
      subst e3
      rw [e2] at hz
      obtain ⟨a, b⟩ := a8T hD I Wf' hi (Classical.not_not.1 h4) hk hg4
      rw [a] at hz
      cases hz
      exact b
 split at hx
 ·obtain ⟨z, hz, rfl⟩ := t7 hx
  have h := hz
  unfold a1R at h
  split at h
  ·cases h
  ·split at h
   ·cases h
   ·obtain ⟨a, b⟩ := b0G hD I Wf' (by assumption) (by assumption)
    rw [a] at hz
    cases hz
    exact b
 ·obtain ⟨z, hz, rfl⟩ := t7 hx
  unfold X5 at hz
  split at hz
  ·cases hz
  ·rename_i k hk
   rw [a7Z] at hk
   obtain ⟨hk, _, _⟩ := hk
   have hgd : (⟨sg, []⟩ : Wk).s.O.getD k Msg.zero = sg.O[k] := by rw [l_s, l_r hk]; rfl
   simp only at hz
   split at hz
   ·cases hz
   ·rw [hgd] at hz
    obtain ⟨a, b⟩ := a8p (w := ⟨sg, []⟩) hD I Wf' hk (x := sg.O[k]) rfl rfl c.yes rfl
    rw [a] at hz
    cases hz
    exact b
theorem c1z {C : Cfg} (hD : Stc D (j7 C)) : Inv D (j7 C) ⟨E6 C, []⟩ 1000 0 := by
 have hK : ∀ n < (E6 C).K.length, (E6 C).K.getD n KU0 = ⟨if (j8 (j7 C) n).ord < 0 then 3 else 0, (j8 (j7 C) n).sku, false, false⟩ := fun n hn => by
  have hl : (E6 C).K.length = (j7 C).length := by show (S9 _ _).length = _; simp [S9]
  have hn' : n < (j7 C).length := by omega
  show (S9 _ _).getD n KU0 = _
  simp [S9, l_s, j8, hn', a3c]
 constructor
 case flg =>
  intro n hn
  show a1O _ n ((E6 C).K.getD n KU0)
  rw [hK n hn]
  unfold a1O
  simp only
  split <;> simp <;> omega
 case own =>
  intro n hn h
  rw [a1l hn] at h
  have := hK n hn
  rw [show (⟨E6 C, []⟩ : Wk).s.K = (E6 C).K from rfl, this] at h
  simp only at h
  split at h <;> omega
 case led => exact ⟨rfl, rfl, rfl, rfl, rfl⟩
 case cls => exact List.Pairwise.nil
 case msg => intro m hm; cases hm
 case tim => intro m hm; cases hm
 all_goals (intro i hi; exact absurd hi (by simp [E6]))
end
end
section
def onR (w : Wk) (c : Cmd) (f : Nat → Except Int Wk) : Except Int (Int × List Msg × Wk) := if c.rma < 1 ∨ w.s.R.length < c.rma then .error 7 else (f (c.rma - 1).toNat).map fun w => (0, [], w)
noncomputable def a6V (ps : List Pol) (ss : List Sup) (U : List Unt) (w : Wk) (c : Cmd) (i : Nat) : Except Int Wk :=
 if (w.R i).state ≠ 4 then .error 8 else if 4 < c.grade then .error 1 else match (w.R i).us.findIdx? fun u => decide (u = c.unit) with
  | none => .error 7
  | some j => if (w.R i).gs.getD j 0 ≠ -1 then .error 8 else if c.grade = 4 then .error 1 else .ok (a3G ps ss U w c i j)
noncomputable def doQ (D : Cfg) (U : List Unt) (w : Wk) (c : Cmd) : Except Int (Int × List Msg × Wk) :=
 if c.kind = 1 then (E1 D.ps D.os D.ss U w c).map fun x => (x.1, [], x.2)
 else if c.kind = 7 then (if c.days < 1 ∨ 1000 < c.days then .error 1 else if 100000 < w.s.now + c.days then .error 2 else .ok (0, (a3f D.ss U w c.days).2, (a3f D.ss U w c.days).1))
 else if c.kind = 8 then (match w.s.O.findIdx? fun m => decide (m.key = c.key) with
  | none => .error 16
  | some k => .ok (0, [], T0 D.ss { w with s := { w.s with O := w.s.O.take k ++ w.s.O.drop (k + 1) } } (w.s.O.getD k Msg.zero) c.yes))
 else onR w c fun i => if c.kind = 2 ∨ c.kind = 3 then (if (w.R i).state = 1 ∨ (w.R i).state = 2 then .ok (M8 w i (if c.kind = 3 then 7 else 9)) else .error 8)
  else if c.kind = 4 then (if (w.R i).state = 2 then .ok (a6J w i) else .error 8)
  else if c.kind = 5 then (if (w.R i).state = 3 then .ok (a0k w i) else .error 8)
  else a6V D.ps D.ss U w c i
noncomputable def a3S (D : Cfg) (U : List Unt) (s : Sag) (c : Cmd) : Int × List Msg × Int × Sag :=
 if dcd c.formed = false then (0, [], 1, s) else match doQ D U ⟨s, []⟩ c with
 | .error e => (0, [], e, s)
 | .ok x => (x.1, x.2.2.sd ++ x.2.1, 0, x.2.2.s)
section
variable {D : Cfg} {U : List Unt} {w W : Wk} {e i j m : Nat} {q s : Int} {r : Ret} {K : List KU} {O : List Msg}
theorem a6i {n : Int} (h : n < 1 ∨ w.s.R.length < n) : w.s.at_ n = none := by
 unfold Sag.at_
 split
 ·rw [a0s (by omega)]
 ·rfl
theorem b6H (hD : Stc D U) (I : Inv D U w 1000 0) (Wv : w.wf U m) (hi : i < w.s.R.length) : (w.R i).right := by
 have hI := I.ret i hi
 have hok := Wv.rr _ (C2 hi)
 have hwl := H6 hD hI (Wv.len _ (C2 hi))
 have hrl := Wv.rl
 have hkl := Wv.kl
 have hul := hD.ul
 have hos := hD.cfg.2.1
 have hr := I.res i hi
 have hres : (w.R i).res ≤ 199 := by
  by_cases h0 : 0 ≤ (w.R i).res
  ·have h := (hr.2 h0).2.2
   have hne : i9 w.s.K (w.R i).res ≠ -1 := by omega
   unfold i9 at hne
   rw [if_pos h0] at hne
   by_cases hlt : (w.R i).res.toNat < w.s.K.length
   ·omega
   ·rw [a0s (by omega)] at hne
    exact absurd rfl hne
  ·omega
 have ht : 0 ≤ (w.R i).paid ∧ 0 ≤ (w.R i).credd ∧ 0 ≤ (w.R i).given ∧ (w.R i).paid + (w.R i).credd + (w.R i).given ≤ (w.R i).worth := by
  by_cases hf : fin (w.R i)
  ·have := a3p hD I (by omega) hi hf
   split at this <;> omega
  ·have h1 := hI.pos
   have h2 := hI.nil (fun h => hf (.inl h)) (fun h => hf (.inr h))
   unfold tol at h2
   omega
 have h4 := hI.rea
 unfold isR at h4
 refine ⟨?_, ?_, ?_, hI.want, ⟨hr.1, hres⟩, hI.st, hI.day, hok.1, ?_, ?_, ?_, ?_⟩
 ·have := hI.num; unfold btw; omega
 ·have := hI.ord; unfold btw; omega
 ·unfold btw; omega
 all_goals (unfold a0S btw; omega)
theorem c2x (hD : Stc D U) {c : Cmd} (I : Inv D U w 1000 0) (Wv : w.wf U m) (hc : c.formed) : doP D U w c = doQ D U w c := by
 have hf := hc.1
 have hrl := Wv.rl
 have hI : ∀ {i : Nat}, i < w.s.R.length → 1 ≤ (w.R i).state ∧ (w.R i).state ≤ 9 := fun hi => (I.ret _ hi).st
 have hend : ∀ st : Int, 7 ≤ st ∧ st ≤ 9 → (L6 w c.rma st).map (fun x => ((0 : Int), ([] : List Msg), x)) = onR w c fun i => if (w.R i).state = 1 ∨ (w.R i).state = 2 then .ok (M8 w i st) else .error 8 := fun st hst => by
  unfold onR
  split
  ·rename_i h
   unfold L6
   rw [a6i h]
   rfl
  ·rename_i h
   obtain ⟨i, hi⟩ : ∃ i : Nat, c.rma = i + 1 := ⟨(c.rma - 1).toNat, by omega⟩
   have hil : i < w.s.R.length := by omega
   rw [hi, show ((i : Int) + 1 - 1).toNat = i by omega]
   dsimp only
   split
   ·rw [(a4d I Wv hil (by assumption) hst).1]
   ·rename_i hs
    unfold L6
    rw [b0r hil]
    simp only
    rw [show D8 (w.R i).state st = none by unfold D8; grind]
 unfold doP doQ
 by_cases k1 : c.kind = 1
 ·rw [if_pos k1, if_pos k1]
 rw [if_neg k1, if_neg k1]
 by_cases k2 : c.kind = 2
 ·rw [if_pos k2, if_neg (by omega), if_neg (by omega), hend 9 (by decide)]
  congr 1
  funext i
  rw [if_pos (show c.kind = 2 ∨ c.kind = 3 from .inl k2), if_neg (show ¬ c.kind = 3 by omega)]
 rw [if_neg k2]
 by_cases k3 : c.kind = 3
 ·rw [if_pos k3, if_neg (by omega), if_neg (by omega), hend 7 (by decide)]
  congr 1
  funext i
  rw [if_pos (show c.kind = 2 ∨ c.kind = 3 from .inr k3), if_pos k3]
 rw [if_neg k3]
 by_cases k4 : c.kind = 4
 ·rw [if_pos k4, if_neg (by omega), if_neg (by omega)]
  unfold onR
  split
  ·rename_i h
   unfold a2n H1
   rw [a6i h]
   rfl
  ·rename_i h
   obtain ⟨i, hi⟩ : ∃ i : Nat, c.rma = i + 1 := ⟨(c.rma - 1).toNat, by omega⟩
   have hil : i < w.s.R.length := by omega
   rw [hi, show ((i : Int) + 1 - 1).toNat = i by omega]
   dsimp only
   rw [if_neg (show ¬ (c.kind = 2 ∨ c.kind = 3) by omega)]
   split
   ·rw [(b1G I Wv hil (by assumption)).1]
   ·rename_i hs
    unfold a2n H1
    rw [b0r hil]
    simp only
    rw [show D8 (w.R i).state 2 = none by unfold D8; grind]
    rfl
 rw [if_neg k4]
 by_cases k5 : c.kind = 5
 ·rw [if_pos k5, if_neg (by omega), if_neg (by omega)]
  unfold onR
  split
  ·rename_i h
   unfold N3 H1
   rw [a6i h]
   rfl
  ·rename_i h
   obtain ⟨i, hi⟩ : ∃ i : Nat, c.rma = i + 1 := ⟨(c.rma - 1).toNat, by omega⟩
   have hil : i < w.s.R.length := by omega
   rw [hi, show ((i : Int) + 1 - 1).toNat = i by omega]
   dsimp only
   rw [if_neg (show ¬ (c.kind = 2 ∨ c.kind = 3) by omega)]
   split
   ·rw [(a5G I Wv hil (by assumption)).1]
   ·rename_i hs
    unfold N3 H1
    rw [b0r hil]
    simp only
    rw [show D8 (w.R i).state 3 = none by unfold D8; grind]
    rfl
 rw [if_neg k5]
 by_cases k6 : c.kind = 6
 ·rw [if_pos k6, if_neg (by omega), if_neg (by omega)]
  have hg : 0 ≤ c.grade := by
   unfold Cmd.fits at hf
   rw [if_neg k1, if_neg (by omega), if_pos k6] at hf
   exact hf.2.2.1
  unfold onR T5
  by_cases h : c.rma < 1 ∨ w.s.R.length < c.rma
  ·rw [if_pos h, a6i h]
   rfl
  ·rw [if_neg h]
   obtain ⟨i, hi⟩ : ∃ i : Nat, c.rma = i + 1 := ⟨(c.rma - 1).toNat, by omega⟩
   have hil : i < w.s.R.length := by omega
   rw [hi, b0r hil, show ((i : Int) + 1 - 1).toNat = i by omega]
   show _ = Except.map _ (if c.kind = 2 ∨ c.kind = 3 then _ else if c.kind = 4 then _ else if c.kind = 5 then _ else _)
   rw [if_neg (show ¬ (c.kind = 2 ∨ c.kind = 3) by omega), if_neg k4, if_neg k5]
   unfold a6V
   simp only
   split
   ·rfl
   ·rename_i h4
    have hr := b6H hD I Wv hil
    by_cases hb : 4 < c.grade
    ·rw [if_pos hb]
     have : N6 (w.R i) c.unit c.grade = .error 1 := by
      unfold N6
      rw [if_pos (dF fun h => by have := h.2.2; omega)]
     rw [this]
    ·rw [if_neg hb]
     have hE : N6 (w.R i) c.unit c.grade = match (w.R i).us.findIdx? fun u => decide (u = c.unit) with
      | none => .error 7
      | some j => if (w.R i).gs.getD j 0 ≠ -1 then .error 8 else .ok j := by
      unfold N6
      rw [if_neg (by rw [dT ⟨hr, ⟨hg, by omega⟩⟩]; decide)]
      rfl
     cases hfd : (w.R i).us.findIdx? fun u => decide (u = c.unit) with
     | none => rw [hE, hfd]
     | some j =>
      rw [hfd] at hE
      simp only at hE ⊢
      by_cases hgj : (w.R i).gs.getD j 0 ≠ -1
      ·rw [if_pos hgj] at hE ⊢
       rw [hE]
      ·rw [if_neg hgj] at hE ⊢
       rw [hE]
       simp only
       split
       ·rfl
       ·rename_i hg4
        rw [(a8T hD I Wv hil (Classical.not_not.1 h4) hE hg4).1]
 rw [if_neg k6]
 by_cases k7 : c.kind = 7
 ·rw [if_pos k7, if_pos k7]
  split
  ·rename_i h; unfold a1R; rw [if_pos h]; rfl
  ·rename_i h1
   split
   ·rename_i h2; unfold a1R; rw [if_neg h1, if_pos h2]; rfl
   ·rename_i h2
    rw [(b0G hD I Wv h1 h2).1]
    rfl
 rw [if_neg k7, if_neg k7]
 have k8 : c.kind = 8 := by
  unfold Cmd.fits at hf
  rw [if_neg k1, if_neg (by omega), if_neg k6, if_neg k7] at hf
  by_cases h : c.kind = 8
  ·exact h
  ·rw [if_neg h] at hf; exact hf.elim
 rw [if_pos k8]
 unfold X5
 cases hfd : w.s.O.findIdx? fun m => decide (m.key = c.key) with
 | none => rfl
 | some k =>
  have hk := (List.findIdx?_eq_some_iff_getElem.1 hfd).1
  have hgd : w.s.O.getD k Msg.zero = w.s.O[k] := by rw [l_s, l_r hk]; rfl
  simp only
  rw [hgd]
  have hm := (I.msg _ (l_v hk)).rma
  have hat : (⟨{ w.s with O := w.s.O.take k ++ w.s.O.drop (k + 1) }, w.sd⟩ : Wk).s.at_ w.s.O[k].rma = some (w.R (w.s.O[k].rma - 1).toNat) := by
   have := b0r (w := w) (i := (w.s.O[k].rma - 1).toNat) (by omega)
   rw [show (((w.s.O[k].rma - 1).toNat : Nat) : Int) + 1 = w.s.O[k].rma by omega] at this
   exact this
  rw [hat]
  simp only
  rw [(a8p hD I Wv hk (x := w.s.O[k]) rfl rfl c.yes rfl).1]
  rfl
theorem c0M (hD : Stc D U) {sg : Sag} {c : Cmd} (I : Inv D U ⟨sg, []⟩ 1000 0) (Wv : sg.wf U m) : O6 D U sg c = a3S D U sg c := by
 unfold O6 a3S
 split
 ·rfl
 ·rename_i hd
  have hf : c.formed := n9 (by cases hd' : dcd c.formed with | false => exact absurd hd' hd | true => rfl)
  rw [c2x hD I Wv hf]
  rfl
end
end
section
set_option maxHeartbeats 4000000
structure U0 where
 p : Nat
 A : Option Addr
 c : Nat
def v8 (C : Cfg) (u k r t o sd : Value) (s : Sag) : List Value := [.slice C.A1 C.os.length C.c1, .slice C.A2 C.ss.length C.c2, .slice C.A3 C.ps.length C.c3, u, k, .int .i64 s.led.a, .int .i64 s.led.b, .int .i64 s.led.c, .int .i64 s.led.d, .int .i64 s.led.e, r, t, o, .int .i64 s.key, .int .i64 s.now, sd]
def n7 (L : U0) (C : Cfg) (u : Value) (w : Wk) : HP := exA fun x : (Value × Value × Value × Value) × List f9 => a1A (b1D (x.2.map f9.r = w.s.R) ::
 d9 L.p (v8 C u x.1.1 (.slice L.A w.s.R.length L.c) x.1.2.1 x.1.2.2.1 x.1.2.2.2 w.s) 68 :: f8 KU.enc 4 76 x.1.1 w.s.K :: f8 tmE 2 139 x.1.2.1 w.s.T :: f8 Msg.enc 6 127 x.1.2.2.1 w.s.O ::
 f8 f9.enc 14 70 (.slice L.A w.s.R.length L.c) x.2 :: f8 Msg.enc 6 127 x.1.2.2.2 w.sd :: x.2.map j1)
def moL (L : U0) (C : Cfg) (u : Value) (w : Wk) (k t o sd : Value) (vs : List f9) (l : List HP) : List HP := d9 L.p (v8 C u k (.slice L.A w.s.R.length L.c) t o sd w.s) 68 :: f8 KU.enc 4 76 k w.s.K :: f8 tmE 2 139 t w.s.T :: f8 Msg.enc 6 127 o w.s.O ::
 f8 f9.enc 14 70 (.slice L.A w.s.R.length L.c) vs :: f8 Msg.enc 6 127 sd w.sd :: (vs.map j1 ++ l)
section
variable {h0 h : c9} {l : List HP} {L : U0} {C : Cfg} {u : Value} {w : Wk} {U : List Unt}
theorem St.mo : St h0 h (n7 L C u w :: l) ↔ ∃ (k t o sd : Value) (vs : List f9), vs.map f9.r = w.s.R ∧ St h0 h (moL L C u w k t o sd vs l) := by
 rw [n7, St.ex]
 constructor
 ·rintro ⟨⟨⟨k, t, o, sd⟩, vs⟩, S⟩
  obtain ⟨hv, S⟩ := St.pure.1 (St.stars.1 S)
  exact ⟨k, t, o, sd, vs, hv, S⟩
 ·rintro ⟨k, t, o, sd, vs, hv, S⟩
  exact ⟨⟨⟨k, t, o, sd⟩, vs⟩, St.stars.2 (St.pure.2 ⟨hv, S⟩)⟩
section
variable {k t o sd : Value} {vs : List f9} {A : Option Addr} {n c : Nat} {K : Value → c9 → Prop} {x : Tag h} {y : Tag K}
theorem St.moF (S : St h0 h (moL L C u w k t o sd vs l)) : ∀ off, rd1 h (.pointer (some ⟨L.p, off, none⟩)) = (v8 C u k (.slice L.A w.s.R.length L.c) t o sd w.s)[off]? := fun off => i7 (St.blk S)
theorem St.moC (S : St h0 h (moL L C u w k t o sd vs l)) : rdN h L.p 0 3 = some C.enc := m7 (St.blk S) (l_a rfl)
theorem b9M {T' : List Tm} (hv : vs.map f9.r = w.s.R) (S : St h0 h (f8 tmE 2 139 (.slice A n c) T' :: moL L C u w k t o sd vs l)) (hk : ∀ h', St h0 h' (n7 L C u { w with s := { w.s with T := T' } } :: l) → K undef h') : O8 1 (.pointer (some ⟨L.p, 11, none⟩)) [.slice A n c] h K x y := by
 refine tS S.p1 rfl rfl (l_a rfl) fun h' S' => hk _ (St.mo.2 ⟨k, .slice A n c, o, sd, vs, hv, ?_⟩)
 exact S'.p3.tl.p2.p1
theorem b2i {O' : List Msg} (hv : vs.map f9.r = w.s.R) (S : St h0 h (f8 Msg.enc 6 127 (.slice A n c) O' :: moL L C u w k t o sd vs l)) (hk : ∀ h', St h0 h' (n7 L C u { w with s := { w.s with O := O' } } :: l) → K undef h') : O8 1 (.pointer (some ⟨L.p, 12, none⟩)) [.slice A n c] h K x y := by
 refine tS S.p1 rfl rfl (l_a rfl) fun h' S' => hk _ (St.mo.2 ⟨k, t, .slice A n c, sd, vs, hv, ?_⟩)
 exact S'.p4.tl.p3.p3.p2
end
theorem St.moRet {b i : Nat} (S : St h0 h (n7 L C u w :: l)) (hA : L.A = some ⟨b, 0, none⟩) (hi : i < w.s.R.length) :
  ∃ x : f9, x.r = w.R i ∧ (∀ j, j < 14 → rd1 h (.pointer (some ⟨b, i * 14 + j, none⟩)) = x.enc[j]?) ∧ rdN h b (i * 14) 14 = some x.enc ∧ Arr i8 1 h x.A x.r.us ∧ Arr i8 1 h x.B x.r.gs := by
 obtain ⟨k, t, o, sd, vs, hv, S⟩ := St.mo.1 S
 have hil : i < vs.length := by rw [← hv, l_z] at hi; exact hi
 have e : vs[i].r = w.R i := by
  unfold Wk.R
  rw [← hv, l_s, a0K, l_r hil]
  rfl
 have S4 := S.p4
 rw [hA] at S4
 obtain ⟨b', o', hb, q⟩ := (S4.arr f9.enc_len).at hil
 cases hb
 have hr := R5 S (x := vs[i]) (by simp only [moL, l_e, l_y]; exact .inr (.inr (.inr (.inr (.inr (.inr (.inl (a3w (l_v hil)))))))))
 refine ⟨vs[i], e, fun j hj => t8 f9.enc_len S4 hil hj, ?_, hr.1, hr.2⟩
 rw [Nat.zero_add] at q
 exact q
theorem L0 {b i j : Nat} {v : Value} {r' : Ret} {K : Value → c9 → Prop} {s : Tag h} {t : Tag K} (S : St h0 h (n7 L C u w :: l)) (hA : L.A = some ⟨b, 0, none⟩) (hi : i < w.s.R.length) (hj : j < 14) (hp : pC [v] = true)
  (hu : r'.us = (w.R i).us) (hg : r'.gs = (w.R i).gs) (hx : ∀ x : f9, x.r = w.R i → f9.enc { x with r := r' } = u7 x.enc j [v]) (hk : ∀ h', St h0 h' (n7 L C u (w.put i r') :: l) → K undef h') : O8 1 (.pointer (some ⟨b, i * 14 + j, none⟩)) [v] h K s t := by
 obtain ⟨k, tt, o, sd, vs, hv, S⟩ := St.mo.1 S
 have hl : vs.length = w.s.R.length := by rw [← hv, l_z]
 have hil : i < vs.length := by omega
 have e : vs[i].r = w.R i := by
  unfold Wk.R
  rw [← hv, l_s, a0K, l_r hil]
  rfl
 have S4 := S.p4
 rw [hA] at S4
 refine G7 f9.enc_len (i := i) (j := j) (x := { vs[i] with r := r' }) S4 hil rfl (by simp; omega) rfl hp (hx _ e) ?_
 intro h' S'
 rw [← hA] at S'
 refine hk _ (St.mo.2 ⟨k, tt, o, sd, vs.set i { vs[i] with r := r' }, ?_, ?_⟩)
 ·rw [List.map_set, hv]; rfl
 ·have e1 : (vs.set i { vs[i] with r := r' }).map j1 = vs.map j1 := by
   rw [List.map_set]
   have : j1 { vs[i] with r := r' } = (vs.map j1)[i]'(by rw [l_z]; exact hil) := by
    rw [X7]
    unfold j1
    simp only [hu, hg, e]
   rw [this, List.set_getElem_self]
  have e2 : (w.put i r').s.R.length = w.s.R.length := n8
  unfold moL
  rw [e1]
  show St h0 h' (d9 L.p (v8 C u k (.slice L.A (w.put i r').s.R.length L.c) tt o sd (w.put i r').s) 68 :: _ :: _ :: _ :: f8 f9.enc 14 70 (.slice L.A (w.put i r').s.R.length L.c) _ :: _)
  rw [e2]
  exact S'.p4.p4.p4.p4
end
end
end Go.Proofs.YtjagmebglhbdkaaGreat.MX
