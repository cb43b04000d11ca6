import Derived.Test.YtjagmebglhbdkaaGreatK43
import Derived.Test.YtjagmebglhbdkaaGreatK24
namespace Go.Proofs.YtjagmebglhbdkaaGreat.MX
open Go Go.Proofs
set_option linter.unusedSimpArgs false
set_option linter.unusedVariables false
section
set_option maxHeartbeats 16000000
theorem c2i {D C : Cfg} (hp : D.pu = C.pu) : D.ps = C.ps ∧ D.ss = C.ss ∧ D.os.map Odr.day = C.os.map Odr.day ∧ D.os.length = C.os.length := by
 have h1 : D.ps = C.ps := congrArg Prod.fst hp
 have h2 : D.ss = C.ss := congrArg (fun x => x.2.1) hp
 have h3 : D.os.map Odr.pu = C.os.map Odr.pu := congrArg (fun x => x.2.2) hp
 refine ⟨h1, h2, ?_, ?_⟩
 ·have := congrArg (List.map Prod.fst) h3
  simpa [List.map_map, Function.comp_def, Odr.pu] using this
 ·have := congrArg List.length h3
  simpa using this
theorem b7j {D C : Cfg} (hp : D.pu = C.pu) (U : List Unt) (s : Sag) (c : Cmd) : O6 D U s c = O6 C U s c := by
 obtain ⟨h1, h2, h3, h4⟩ := c2i hp
 have hr : ∀ w, E1 D.ps D.os D.ss U w c = E1 C.ps C.os C.ss U w c := fun w => by
  have ha : O0 D.ps D.os U w.s c = O0 C.ps C.os U w.s c := by
   unfold O0
   have : F7 D.ps D.os U w.s c = F7 C.ps C.os U w.s c := by
    funext u
    unfold F7
    rw [← a0K, ← a0K, h1, h3]
   rw [this]
  unfold E1
  rw [ha, h1, h2, h4]
 unfold O6 doP
 rw [hr, h1, h2]
section
variable {h0 h : c9} {l : List HP} {L : U0} {C D : Cfg} {U : List Unt} {m : Nat} {Au Bu : Option Addr} {cu du p : Nat} {s : Sag}
structure Pl (C : Cfg) (U : List Unt) (s : Sag) (m : Nat) : Prop where
 wf : s.wf U m
 inv : Inv C U ⟨s, []⟩ 1000 0
 key : ∃ f, a7U f s
theorem Pl.keys (P : Pl C U s m) : a7q s := P.key.choose_spec.keys
theorem Pl.step (hD : Stc C U) (P : Pl C U s m) (c : Cmd) : O6 C U s c = a3S C U s c ∧ Pl C U (O6 C U s c).2.2.2 (m + 201) := by
 obtain ⟨f, hf⟩ := P.key
 exact ⟨c0M hD P.inv P.wf, c1y hD.ul P.wf, b8I hD P.inv P.wf, _, (b6A hf).2⟩
theorem b5b {C : Cfg} : a7U (fun _ => none) (E6 C) := ⟨⟨fun m hm => absurd hm l_d, List.Pairwise.nil⟩, fun k m h => (nomatch h), fun m hm => absurd hm l_d⟩
def c2S (p : Nat) (L : U0) (C D : Cfg) (U : List Unt) (Au Bu : Option Addr) (cu du : Nat) (s : Sag) : List HP := [D5 p D (.slice Au U.length cu) s, a5S D (.slice Au U.length cu) U, n7 L C (.slice Bu U.length du) ⟨s, []⟩, f8 Unt.enc 4 74 (.slice Bu U.length du) U]
theorem b6a (C : Cfg) (A : Option Addr) (c : Nat) (xs : List i4) (r : C.rd h0) (w : C.wf) (f1 : C.os.length < 1000000) (f2 : C.ss.length < 1000000) (f3 : C.ps.length < 1000000) (f4 : ∀ o ∈ C.os, o.ls.length < 1000000) (ha : Arr i4.enc 12 h0 A xs) (hxl : xs.length ≤ 100) (hx : ∀ x ∈ xs, x.ok h0) (hxu : ∀ x ∈ xs, x.c.us.length ≤ 100) (S : St h0 h l) :
  d8 Tryz.prog 21 [.agg C.enc.toArray, .slice A xs.length c] h fun v h' => (¬ J9 C ∧ v = .tuple #[.pointer none, .pointer none] ∧ St h0 h' l) ∨
   (J9 C ∧ ∃ p L D Au Bu cu du s, v = .tuple #[.pointer (some ⟨p, 0, none⟩), .pointer (some ⟨L.p, 0, none⟩)] ∧ D.pu = C.pu ∧ Stc C (j7 C) ∧ Pl C (j7 C) s (xs.length * 201) ∧ St h0 h' (c2S p L C D (j7 C) Au Bu cu du s ++ l)) := by
 have r' : ∀ {l : List HP} (h' : c9), St h0 h' l → C.rd h' := fun h' S => r.fr S.fr
 refine EN i21.eq_1 fun K hK => Wa ?_
 (revert S; (try clear F); refine AL fun g h S F => ?_)
 have FN : rdN h g 0 3 = some C.enc := m7 S.blk (l_a rfl)
 have hx3 : C.enc.length = 3 := rfl
 refine Wc @FN hx3 ?_
 refine cI (c1q C (fun h' S => r' h' S) w f1 f2 f3 f4 S) ?_
 clear S F FN
 rintro _ h (⟨hn, rfl, S⟩ | ⟨hok, p, D, u, rfl, hw, hp, S⟩)
 ·refine Wa ?_
  exact hK _ _ (.inl ⟨hn, rfl, S.tl⟩)
 obtain ⟨_, Au, cu, rfl, _⟩ := b4f S.p1
 have hD := b4g hp hok
 have hDC := b4g (C := C) rfl hok
 have FN : rdN h g 0 3 = some C.enc := m7 S.p2.blk (l_a rfl)
 refine Wc @FN hx3 ?_
 refine cI (b6Q C (fun h' S => r' h' S) hok hDC S) ?_
 clear S FN
 rintro _ h ⟨q, Bu, du, rfl, S⟩
 have P0 : Pl C (j7 C) (E6 C) 0 := ⟨c2T, c1z hDC, _, b5b⟩
 obtain ⟨L, hL⟩ : ∃ L : U0, L = ⟨q, none, 0⟩ := ⟨_, rfl⟩
 have hq : q = L.p := by rw [hL]
 rw [← hL] at S
 rw [hq]
 clear hL hq
 obtain ⟨U, hU⟩ : ∃ U, U = j7 C := ⟨_, rfl⟩
 rw [← hU] at S hD hDC P0 hK
 clear hU
 have S : St h0 h (c2S p L C D U Au Bu cu du (E6 C) ++ d9 g C.enc 26 :: l) := by
  show St h0 h (_ :: _ :: _ :: _ :: _ :: _)
  (exact PM S)
 refine Wa ?_
 refine LKp (Nat.zero_add 0) [1, 6, 20] (fun ρ h' => ∃ (i : Nat) (L : U0) (s : Sag), ρ 21 = .int .i64 i ∧ i ≤ xs.length ∧ ρ 8 = .pointer (some ⟨L.p, 0, none⟩) ∧ Pl C U s (i * 201) ∧ St h0 h' (c2S p L C D U Au Bu cu du s ++ d9 g C.enc 26 :: l)) (fun ρ _ => xs.length - (iv (ρ 21)).toNat) ?_ ?_
 ·refine Wa ?_
  exact ⟨0, L, _, rfl, by omega, rfl, by simpa using P0, S⟩
 clear S P0
 rintro ρ h J ⟨e1, e6, e20⟩ hJ ⟨i, L, s, e21, hi, e8, P, S⟩
 refine Wc e20 e21 ?_
 refine cD (fun hlt => ?_) (fun hlt => ?_)
 rotate_left
 ·obtain rfl : i = xs.length := by omega
  refine Wc e6 e8 ?_
  exact hK _ _ (.inr ⟨hok, p, L, D, Au, Bu, cu, du, s, rfl, hp, hDC, P, by
   have S : St h0 h (_ :: _ :: _ :: _ :: d9 g C.enc 26 :: l) := S
   exact S.p4.tl⟩)
 have hil : i < xs.length := by omega
 have hxi := hx _ (l_v hil)
 have hui := hxu _ (l_v hil)
 obtain ⟨b, o, rfl, q⟩ := (ha.fr S.fr (by simp)).at hil
 have hqx : ∀ {h' : c9} {l' : List HP}, St h0 h' l' → rdN h' b (o + i * 12) 12 = some xs[i].enc := fun S => by
  obtain ⟨b', o', e, q⟩ := (ha.fr S.fr (by simp)).at hil
  cases e
  exact q
 generalize xs[i] = x at *
 have hx12 : x.enc.length = 12 := rfl
 refine We e1 e6 e21 q ?_
 refine cI (b0x x (fun h' S => hxi.us.fr S.fr (by simp)) (by omega) S) ?_
 clear S q
 rintro _ h ⟨y, rfl, hy, S⟩
 have hyi : y.c.i64 := by rw [hy]; exact hxi.i64
 have S : St h0 h (D5 p D (.slice Au U.length cu) s :: f8 i8 1 3 (.slice y.A y.c.us.length y.n) y.c.us :: a5S D (.slice Au U.length cu) U :: n7 L C (.slice Bu U.length du) ⟨s, []⟩ :: f8 Unt.enc 4 74 (.slice Bu U.length du) U :: d9 g C.enc 26 :: l) := S.p1
 refine Wa ?_
 refine cI (c1Z y (Au := Au) (cu := cu) (U := U) (l := f8 i8 1 3 (.slice y.A y.c.us.length y.n) y.c.us :: a5S D (.slice Au U.length cu) U :: n7 L C (.slice Bu U.length du) ⟨s, []⟩ :: f8 Unt.enc 4 74 (.slice Bu U.length du) U :: d9 g C.enc 26 :: l) (by simp) (fun h' S => S.arr zEl) (by rw [hy]; omega) hyi hD S P.wf (by omega)) ?_
 clear S
 rintro _ h ⟨sl, rfl, S⟩
 rw [hy, b7j hp] at S
 obtain ⟨hpq, P1⟩ := P.step hDC x.c
 have S : St h0 h (n7 L C (.slice Bu U.length du) ⟨s, []⟩ :: D5 p D (.slice Au U.length cu) (O6 C U s x.c).2.2.2 :: a5S D (.slice Au U.length cu) U :: f8 Unt.enc 4 74 (.slice Bu U.length du) U :: d9 g C.enc 26 :: l) := by
  have S := S.tl.d1
  exact S.p2
 have qx := hqx S
 refine We e1 e8 e21 qx ?_
 refine cI (b7L x (fun h' S => r' h' S) (fun h' S => S.p2.arr Unt.enc_len) (fun h' S => hxi.us.fr S.fr (by simp)) (by omega) hDC P.inv P.keys.2 S P.wf (by omega)) ?_
 clear S qx
 rintro _ h ⟨L', s', rfl, S⟩
 rw [← hpq] at S
 refine Wb e21 ?_
 refine hJ _ _ ?_ ?_
 ·refine Wa ?_
  refine ⟨i + 1, L', _, rfl, by omega, rfl, by rw [Nat.succ_mul]; exact P1, ?_⟩
  have S := S.tl
  exact S.p2.p2
 ·refine Wb e21 ?_
  omega
end
end
section
set_option maxHeartbeats 16000000
def z7 : List Value := [.int .i64 0, .int .i64 0, .int .i64 0, .int .i64 0, .int .i64 0, .int .i64 0, .int .i64 0]
def a3g (r : Ret) : Int := if r.state = 5 ∨ r.state = 6 then r.worth - r.paid - r.credd - r.given else 0
def stQ (r : Ret) (n : Nat) : List Value := [.int .i64 r.state, .int .i64 r.worth, .int .i64 r.paid, .int .i64 r.credd, .int .i64 r.given, .int .i64 (a3g r), .int .i64 n]
section
variable {h0 h : c9} {l : List HP} {p : Nat} {D : Cfg} {u : Value} {s : Sag}
theorem c1c (n : Int) (h : c9) : d8 Tryz.prog 58 [.pointer none, .int .i64 n] h fun v h' => v = .tuple #[.agg zR.enc.toArray, .int .i64 1] ∧ Fr h h' [] := by
 have S := St.nil h
 refine EN i58.eq_1 fun K hK => Wa ?_
 (revert S; (try clear F); refine AL fun g h S F => ?_)
 refine Wa ?_
 (revert S; (try clear F); refine ST fun h S F => ?_)
 refine Wb F ?_
 exact hK _ _ ⟨rfl, S.fr⟩
theorem c2W (n : Int) (S : St h0 h (D5 p D u s :: l)) (hl : s.R.length ≤ 100) (hr : ∀ r ∈ s.R, r.us.length < 1000000 ∧ r.gs.length < 1000000) : d8 Tryz.prog 58 [.pointer (some ⟨p, 0, none⟩), .int .i64 n] h fun v h' => St h0 h' (D5 p D u s :: l) ∧
  (((n < 1 ∨ s.R.length < n) ∧ v = .tuple #[.agg zR.enc.toArray, .int .i64 7]) ∨ ∃ (i : Nat) (hi : i < s.R.length) (x : f9), n = (i : Int) + 1 ∧ x.r = s.R[i] ∧ v = .tuple #[.agg x.enc.toArray, .int .i64 0]) := by
 refine EN i58.eq_1 fun K hK => Wa ?_
 (revert S; (try clear F); refine AL fun g h S F => ?_)
 refine Wa ?_
 refine cI (b4e S.p1 (by omega) hr) ?_
 clear S F
 intro v h S
 obtain ⟨vs, hvs, S⟩ := St.rmas.1 S
 have hvl : vs.length = s.R.length := by rw [← hvs, l_z]
 obtain ⟨Bv, dv, rfl⟩ := S.sl
 have S : St h0 h (f8 f9.enc 14 136 (.slice Bv vs.length dv) vs :: (vs.map j1 ++ (D5 p D u s :: d9 g zR.enc 136 :: l))) := S
 have hz : ∀ {h' : c9}, St h0 h' (d9 g zR.enc 136 :: (vs.map j1 ++ (D5 p D u s :: l))) → rdN h' g 0 14 = some zR.enc := fun S => by rw [m7 S.blk (l_a rfl)]; rfl
 have S : St h0 h (d9 g zR.enc 136 :: f8 f9.enc 14 136 (.slice Bv vs.length dv) vs :: (vs.map j1 ++ (D5 p D u s :: l))) := by
  refine S.perm ?_
  exact (List.Perm.cons _ (List.perm_middle (l₁ := vs.map j1 ++ [_]) |> fun q => by simpa using q)).trans (List.Perm.swap _ _ _)
 by_cases d1 : n < 1
 ·refine Wb d1 ?_
  refine tS S rfl rfl (l_a rfl) ?_
  clear S
  intro h S
  have FN : rdN h g 0 14 = some zR.enc := by rw [m7 S.blk (l_a rfl)]; rfl
  refine Wb @FN ?_
  exact hK _ _ ⟨S.tl.tl.dropL, .inl ⟨.inl d1, rfl⟩⟩
 by_cases d2 : (vs.length : Int) < n
 ·refine Wc d1 d2 ?_
  refine tS S rfl rfl (l_a rfl) ?_
  clear S
  intro h S
  have FN : rdN h g 0 14 = some zR.enc := by rw [m7 S.blk (l_a rfl)]; rfl
  refine Wb @FN ?_
  exact hK _ _ ⟨S.tl.tl.dropL, .inl ⟨.inr (by omega), rfl⟩⟩
 obtain ⟨i, rfl⟩ : ∃ i : Nat, n = (i : Int) + 1 := ⟨(n - 1).toNat, by omega⟩
 have hi : i < vs.length := by omega
 have hi1 : (i : Int) + 1 - 1 = (i : Int) := by omega
 obtain ⟨b, o, rfl, q⟩ := (S.p1.arr f9.enc_len).at hi
 have hx : vs[i].r = s.R[i]'(by omega) := by simp only [← hvs, X7]
 generalize vs[i] = x at *
 have hx14 : x.enc.length = 14 := rfl
 refine Wf d1 d2 hi1 q hx14 ?_
 refine tS S rfl rfl (l_a rfl) ?_
 clear S q
 intro h S
 have FN : rdN h g 0 14 = some x.enc := by rw [m7 S.blk (l_a rfl)]; rfl
 refine Wb @FN ?_
 exact hK _ _ ⟨S.tl.tl.dropL, .inr ⟨i, by omega, x, rfl, hx, rfl⟩⟩
theorem b3O (n : Int) (h : c9) : d8 Tryz.prog 22 [.pointer none, .int .i64 n] h fun v h' => v = .tuple #[.agg z7.toArray, .int .i64 1] ∧ Fr h h' [] := by
 have S := St.nil h
 refine EN i22.eq_1 fun K hK => Wa ?_
 (revert S; (try clear F); refine AL fun g h S F => ?_)
 refine Wa ?_
 refine cF S (c1c n _) fun h S => ?_
 refine Wa ?_
 (revert S; (try clear F); refine AL fun g2 h S F => ?_)
 refine Wc @zR.eq_1 @f9.enc.eq_1 ?_
 (revert S; (try clear F); refine ST fun h S F => ?_)
 refine Wa ?_
 refine tS S.p1 rfl rfl (l_a rfl) ?_
 clear S F
 intro h S
 have FN : rdN h g 0 7 = some z7 := by rw [m7 S.blk (l_a rfl)]; rfl
 refine Wb @FN ?_
 exact hK _ _ ⟨rfl, S.fr⟩
def b7I (r : Ret) : Prop := (0 ≤ r.worth ∧ r.worth ≤ 858993459200) ∧ (0 ≤ r.paid ∧ r.paid ≤ 858993459200) ∧ (0 ≤ r.credd ∧ r.credd ≤ 858993459200) ∧ (0 ≤ r.given ∧ r.given ≤ 858993459200)
theorem c3z (n : Int) (S : St h0 h (D5 p D u s :: l)) (hl : s.R.length ≤ 100) (hr : ∀ r ∈ s.R, r.us.length < 1000000 ∧ r.gs.length < 1000000) (hs : ∀ r ∈ s.R, b7I r) (ho : s.O.length < 1000000) : d8 Tryz.prog 22 [.pointer (some ⟨p, 0, none⟩), .int .i64 n] h fun v h' => St h0 h' (D5 p D u s :: l) ∧
  (((n < 1 ∨ s.R.length < n) ∧ v = .tuple #[.agg z7.toArray, .int .i64 7]) ∨ ∃ (i : Nat) (hi : i < s.R.length), n = (i : Int) + 1 ∧ v = .tuple #[.agg (stQ s.R[i] (j5 n s.O)).toArray, .int .i64 0]) := by
 refine EN i22.eq_1 fun K hK => Wa ?_
 (revert S; (try clear F); refine AL fun g h S F => ?_)
 refine Wa ?_
 refine cI (c2W n S.p1 hl hr) ?_
 clear S F
 rintro _ h ⟨S, ⟨hn, rfl⟩ | ⟨i, hi, x, hni, hx, rfl⟩⟩
 ·refine Wa ?_
  refine tA S ?_
  clear S
  intro b h S
  (try simp (disch := first|omega|assumption|exact l_a rfl) only [go_sem, ↓wBk, simprocAttr, show zR.enc.length = 14 from rfl])
  refine tS S rfl rfl (l_a rfl) ?_
  clear S
  intro h S
  refine Wa ?_
  refine tS S.p2 rfl rfl (l_a rfl) ?_
  clear S
  intro h S
  have FN : rdN h g 0 7 = some z7 := by rw [m7 S.blk (l_a rfl)]; rfl
  refine Wb @FN ?_
  exact hK _ _ ⟨S.tl.tl, .inl ⟨hn, rfl⟩⟩
 have hsm := hs _ (l_v hi)
 rw [← hx] at hsm
 obtain ⟨m1, m2, m3, m4⟩ := hsm
 have hK : ∀ v h', (St h0 h' (D5 p D u s :: l) ∧ v = .tuple #[.agg (stQ x.r (j5 n s.O)).toArray, .int .i64 0]) → K v h' := fun v h' e => hK v h' ⟨e.1, .inr ⟨i, hi, hni, by rw [e.2, hx]⟩⟩
 clear hx hni hi hr hs i
 have hx14 : x.enc.length = 14 := rfl
 refine Wa ?_
 refine tA S ?_
 clear S
 intro b h S
 refine Wb hx14 ?_
 refine tS S rfl rfl (l_a rfl) ?_
 clear S
 intro h S
 have S : St h0 h (d9 b x.enc 136 :: D5 p D u s :: d9 g z7 56 :: l) := S
 have F : ∀ off, rd1 h (.pointer (some ⟨b, off, none⟩)) = x.enc[off]? := fun off => i7 S.blk
 refine Wc F @f9.enc.eq_1 ?_
 refine tA S ?_
 clear S F
 intro q h S
 refine Wa ?_
 refine tS S rfl rfl (l_a rfl) ?_
 clear S
 intro h S
 replace S := S.nm
 have F : ∀ off, rd1 h (.pointer (some ⟨b, off, none⟩)) = x.enc[off]? := fun off => i7 S.p1.blk
 have hc : (x.r.state = 5) ∨ (¬ x.r.state = 5 ∧ x.r.state = 6) ∨ (¬ x.r.state = 5 ∧ ¬ x.r.state = 6) := by omega
 rcases hc with c | c | c
 ·have ho2 : a3g x.r = x.r.worth - x.r.paid - x.r.credd - x.r.given := if_pos (.inl c)
  refine Wd F @f9.enc.eq_1 c ?_
  refine tS S rfl rfl (l_a rfl) ?_
  clear S F
  intro h S
  replace S := S.nm
  have S : St h0 h (d9 q [.int .i64 x.r.state, .int .i64 x.r.worth, .int .i64 x.r.paid, .int .i64 x.r.credd, .int .i64 x.r.given, .int .i64 (a3g x.r), .int .i64 0] 56 :: d9 b x.enc 136 :: D5 p D u s :: d9 g z7 56 :: l) := by rw [ho2]; first | exact S | (rw [c]; exact S)
  refine Wa ?_
  refine cI (a3J S.p2 ho) ?_
  clear S
  rintro _ h ⟨oo, rfl, S⟩
  refine Wa ?_
  refine cI (a9m S ho) ?_
  clear S
  intro v h S
  obtain ⟨Ao, co, rfl⟩ := S.sl
  refine Wa ?_
  refine LKp (Nat.zero_add 0) [1, 4, 8, 54, 55] (fun ρ h' => ∃ j : Nat, ρ 56 = .int .i64 j ∧ j ≤ s.O.length ∧ St h0 h' (d9 q (stQ x.r (j5 n (s.O.take j))) 56 :: f8 Msg.enc 6 128 (.slice Ao s.O.length co) s.O :: D5 p D u s :: d9 g z7 56 :: l)) (fun ρ _ => s.O.length - (iv (ρ 56)).toNat) ?_ ?_
  ·refine Wa ?_
   exact ⟨0, rfl, by omega, S.d1.p3.tl.p2⟩
  clear S
  rintro ρ h J ⟨e1, e4, e8, e54, e55⟩ hJ ⟨j, e56, hj, S⟩
  refine Wc e55 e56 ?_
  refine cD (fun hlt => ?_) (fun hlt => ?_)
  ·have hjl : j < s.O.length := by omega
   obtain ⟨bo, rfl⟩ := S.p1.ownAt (by omega)
   obtain ⟨b', o', e, q6⟩ := (S.p1.arr enc_len).at hjl
   cases e
   rw [Nat.zero_add] at q6
   have hw := a1G (num := n) hjl
   have hle : j5 n (s.O.take j) ≤ j := by
    have := List.length_filter_le (fun m : Msg => decide (m.rma = n ∧ m.kind ≠ 1)) (s.O.take j)
    rw [v5] at this
    unfold j5
    omega
   generalize s.O[j] = y at *
   have hy6 : y.enc.length = 6 := rfl
   refine We e54 e56 q6 hy6 ?_
   refine tA S ?_
   clear S q6
   intro g2 h S
   refine Wb hy6 ?_
   refine tS S rfl rfl (l_a rfl) ?_
   clear S
   intro h S
   have F : ∀ off, rd1 h (.pointer (some ⟨g2, off, none⟩)) = y.enc[off]? := fun off => i7 S.blk
   have F8 : rd1 h (.pointer (some ⟨q, 6, none⟩)) = some (.int .i64 (j5 n (s.O.take j))) := by rw [i7 S.p1.blk]; rfl
   by_cases c1 : y.rma = n
   ·by_cases c2 : y.kind = 1
    ·rw [if_neg (fun h => h.2 c2), F6] at hw
     refine Wg e1 e56 F @Msg.enc.eq_1 c1 c2 ?_
     refine hJ _ _ ?_ ?_
     ·refine Wa ?_
      exact ⟨j + 1, rfl, by omega, by rw [hw]; exact S.tl⟩
     ·refine Wb e56 ?_
      omega
    ·rw [if_pos ⟨c1, c2⟩] at hw
     refine Wi e1 e8 e56 F F8 @Msg.enc.eq_1 c1 c2 ?_
     refine tS S.p1 rfl rfl (l_a rfl) ?_
     clear S F F8
     intro h S
     refine Wb e56 ?_
     refine hJ _ _ ?_ ?_
     ·refine Wa ?_
      exact ⟨j + 1, rfl, by omega, by rw [hw]; exact S.d1⟩
     ·refine Wb e56 ?_
      omega
   ·rw [if_neg (fun h => c1 h.1), F6] at hw
    refine Wf e1 e56 F @Msg.enc.eq_1 c1 ?_
    refine hJ _ _ ?_ ?_
    ·refine Wa ?_
     exact ⟨j + 1, rfl, by omega, by rw [hw]; exact S.tl⟩
    ·refine Wb e56 ?_
     omega
  obtain rfl : j = s.O.length := by omega
  rw [C8] at S
  have FN : rdN h q 0 7 = some (stQ x.r (j5 n s.O)) := by rw [m7 S.blk (l_a rfl)]; rfl
  (try simp (disch := first|omega|assumption|exact l_a rfl) only [go_sem, ↓wBk, simprocAttr, e4, e8, FN, show (stQ x.r (j5 n s.O)).length = 7 from rfl])
  refine tS S.p3 rfl rfl (l_a rfl) ?_
  clear S FN
  intro h S
  have FN : rdN h g 0 7 = some (stQ x.r (j5 n s.O)) := by rw [m7 S.blk (l_a rfl)]; rfl
  refine Wc e4 @FN ?_
  exact hK _ _ ⟨S.tl.tl.tl, rfl⟩
 ·have ho2 : a3g x.r = x.r.worth - x.r.paid - x.r.credd - x.r.given := if_pos (.inr c.2)
  refine Wd F @f9.enc.eq_1 c ?_
  refine tS S rfl rfl (l_a rfl) ?_
  clear S F
  intro h S
  replace S := S.nm
  have S : St h0 h (d9 q [.int .i64 x.r.state, .int .i64 x.r.worth, .int .i64 x.r.paid, .int .i64 x.r.credd, .int .i64 x.r.given, .int .i64 (a3g x.r), .int .i64 0] 56 :: d9 b x.enc 136 :: D5 p D u s :: d9 g z7 56 :: l) := by rw [ho2]; first | exact S | (rw [c.2]; exact S)
  refine Wa ?_
  refine cI (a3J S.p2 ho) ?_
  clear S
  rintro _ h ⟨oo, rfl, S⟩
  refine Wa ?_
  refine cI (a9m S ho) ?_
  clear S
  intro v h S
  obtain ⟨Ao, co, rfl⟩ := S.sl
  refine Wa ?_
  refine LKp (Nat.zero_add 0) [1, 4, 8, 54, 55] (fun ρ h' => ∃ j : Nat, ρ 56 = .int .i64 j ∧ j ≤ s.O.length ∧ St h0 h' (d9 q (stQ x.r (j5 n (s.O.take j))) 56 :: f8 Msg.enc 6 128 (.slice Ao s.O.length co) s.O :: D5 p D u s :: d9 g z7 56 :: l)) (fun ρ _ => s.O.length - (iv (ρ 56)).toNat) ?_ ?_
  ·refine Wa ?_
   exact ⟨0, rfl, by omega, S.d1.p3.tl.p2⟩
  clear S
  rintro ρ h J ⟨e1, e4, e8, e54, e55⟩ hJ ⟨j, e56, hj, S⟩
  refine Wc e55 e56 ?_
  refine cD (fun hlt => ?_) (fun hlt => ?_)
  ·have hjl : j < s.O.length := by omega
   obtain ⟨bo, rfl⟩ := S.p1.ownAt (by omega)
   obtain ⟨b', o', e, q6⟩ := (S.p1.arr enc_len).at hjl
   cases e
   rw [Nat.zero_add] at q6
   have hw := a1G (num := n) hjl
   have hle : j5 n (s.O.take j) ≤ j := by
    have := List.length_filter_le (fun m : Msg => decide (m.rma = n ∧ m.kind ≠ 1)) (s.O.take j)
    rw [v5] at this
    unfold j5
    omega
   generalize s.O[j] = y at *
   have hy6 : y.enc.length = 6 := rfl
   refine We e54 e56 q6 hy6 ?_
   refine tA S ?_
   clear S q6
   intro g2 h S
   refine Wb hy6 ?_
   refine tS S rfl rfl (l_a rfl) ?_
   clear S
   intro h S
   have F : ∀ off, rd1 h (.pointer (some ⟨g2, off, none⟩)) = y.enc[off]? := fun off => i7 S.blk
   have F8 : rd1 h (.pointer (some ⟨q, 6, none⟩)) = some (.int .i64 (j5 n (s.O.take j))) := by rw [i7 S.p1.blk]; rfl
   by_cases c1 : y.rma = n
   ·by_cases c2 : y.kind = 1
    ·rw [if_neg (fun h => h.2 c2), F6] at hw
     refine Wg e1 e56 F @Msg.enc.eq_1 c1 c2 ?_
     refine hJ _ _ ?_ ?_
     ·refine Wa ?_
      exact ⟨j + 1, rfl, by omega, by rw [hw]; exact S.tl⟩
     ·refine Wb e56 ?_
      omega
    ·rw [if_pos ⟨c1, c2⟩] at hw
     refine Wi e1 e8 e56 F F8 @Msg.enc.eq_1 c1 c2 ?_
     refine tS S.p1 rfl rfl (l_a rfl) ?_
     clear S F F8
     intro h S
     refine Wb e56 ?_
     refine hJ _ _ ?_ ?_
     ·refine Wa ?_
      exact ⟨j + 1, rfl, by omega, by rw [hw]; exact S.d1⟩
     ·refine Wb e56 ?_
      omega
   ·rw [if_neg (fun h => c1 h.1), F6] at hw
    refine Wf e1 e56 F @Msg.enc.eq_1 c1 ?_
    refine hJ _ _ ?_ ?_
    ·refine Wa ?_
     exact ⟨j + 1, rfl, by omega, by rw [hw]; exact S.tl⟩
    ·refine Wb e56 ?_
     omega
  obtain rfl : j = s.O.length := by omega
  rw [C8] at S
  have FN : rdN h q 0 7 = some (stQ x.r (j5 n s.O)) := by rw [m7 S.blk (l_a rfl)]; rfl
  (try simp (disch := first|omega|assumption|exact l_a rfl) only [go_sem, ↓wBk, simprocAttr, e4, e8, FN, show (stQ x.r (j5 n s.O)).length = 7 from rfl])
  refine tS S.p3 rfl rfl (l_a rfl) ?_
  clear S FN
  intro h S
  have FN : rdN h g 0 7 = some (stQ x.r (j5 n s.O)) := by rw [m7 S.blk (l_a rfl)]; rfl
  refine Wc e4 @FN ?_
  exact hK _ _ ⟨S.tl.tl.tl, rfl⟩
 ·have ho2 : a3g x.r = 0 := if_neg (by omega)
  have S : St h0 h (d9 q [.int .i64 x.r.state, .int .i64 x.r.worth, .int .i64 x.r.paid, .int .i64 x.r.credd, .int .i64 x.r.given, .int .i64 (a3g x.r), .int .i64 0] 56 :: d9 b x.enc 136 :: D5 p D u s :: d9 g z7 56 :: l) := by rw [ho2]; exact S
  refine Wd F @f9.enc.eq_1 c ?_
  clear F
  refine cI (a3J S.p2 ho) ?_
  clear S
  rintro _ h ⟨oo, rfl, S⟩
  refine Wa ?_
  refine cI (a9m S ho) ?_
  clear S
  intro v h S
  obtain ⟨Ao, co, rfl⟩ := S.sl
  refine Wa ?_
  refine LKp (Nat.zero_add 0) [1, 4, 8, 54, 55] (fun ρ h' => ∃ j : Nat, ρ 56 = .int .i64 j ∧ j ≤ s.O.length ∧ St h0 h' (d9 q (stQ x.r (j5 n (s.O.take j))) 56 :: f8 Msg.enc 6 128 (.slice Ao s.O.length co) s.O :: D5 p D u s :: d9 g z7 56 :: l)) (fun ρ _ => s.O.length - (iv (ρ 56)).toNat) ?_ ?_
  ·refine Wa ?_
   exact ⟨0, rfl, by omega, S.d1.p3.tl.p2⟩
  clear S
  rintro ρ h J ⟨e1, e4, e8, e54, e55⟩ hJ ⟨j, e56, hj, S⟩
  refine Wc e55 e56 ?_
  refine cD (fun hlt => ?_) (fun hlt => ?_)
  ·have hjl : j < s.O.length := by omega
   obtain ⟨bo, rfl⟩ := S.p1.ownAt (by omega)
   obtain ⟨b', o', e, q6⟩ := (S.p1.arr enc_len).at hjl
   cases e
   rw [Nat.zero_add] at q6
   have hw := a1G (num := n) hjl
   have hle : j5 n (s.O.take j) ≤ j := by
    have := List.length_filter_le (fun m : Msg => decide (m.rma = n ∧ m.kind ≠ 1)) (s.O.take j)
    rw [v5] at this
    unfold j5
    omega
   generalize s.O[j] = y at *
   have hy6 : y.enc.length = 6 := rfl
   refine We e54 e56 q6 hy6 ?_
   refine tA S ?_
   clear S q6
   intro g2 h S
   refine Wb hy6 ?_
   refine tS S rfl rfl (l_a rfl) ?_
   clear S
   intro h S
   have F : ∀ off, rd1 h (.pointer (some ⟨g2, off, none⟩)) = y.enc[off]? := fun off => i7 S.blk
   have F8 : rd1 h (.pointer (some ⟨q, 6, none⟩)) = some (.int .i64 (j5 n (s.O.take j))) := by rw [i7 S.p1.blk]; rfl
   by_cases c1 : y.rma = n
   ·by_cases c2 : y.kind = 1
    ·rw [if_neg (fun h => h.2 c2), F6] at hw
     refine Wg e1 e56 F @Msg.enc.eq_1 c1 c2 ?_
     refine hJ _ _ ?_ ?_
     ·refine Wa ?_
      exact ⟨j + 1, rfl, by omega, by rw [hw]; exact S.tl⟩
     ·refine Wb e56 ?_
      omega
    ·rw [if_pos ⟨c1, c2⟩] at hw
     refine Wi e1 e8 e56 F F8 @Msg.enc.eq_1 c1 c2 ?_
     refine tS S.p1 rfl rfl (l_a rfl) ?_
     clear S F F8
     intro h S
     refine Wb e56 ?_
     refine hJ _ _ ?_ ?_
     ·refine Wa ?_
      exact ⟨j + 1, rfl, by omega, by rw [hw]; exact S.d1⟩
     ·refine Wb e56 ?_
      omega
   ·rw [if_neg (fun h => c1 h.1), F6] at hw
    refine Wf e1 e56 F @Msg.enc.eq_1 c1 ?_
    refine hJ _ _ ?_ ?_
    ·refine Wa ?_
     exact ⟨j + 1, rfl, by omega, by rw [hw]; exact S.tl⟩
    ·refine Wb e56 ?_
     omega
  obtain rfl : j = s.O.length := by omega
  rw [C8] at S
  have FN : rdN h q 0 7 = some (stQ x.r (j5 n s.O)) := by rw [m7 S.blk (l_a rfl)]; rfl
  (try simp (disch := first|omega|assumption|exact l_a rfl) only [go_sem, ↓wBk, simprocAttr, e4, e8, FN, show (stQ x.r (j5 n s.O)).length = 7 from rfl])
  refine tS S.p3 rfl rfl (l_a rfl) ?_
  clear S FN
  intro h S
  have FN : rdN h g 0 7 = some (stQ x.r (j5 n s.O)) := by rw [m7 S.blk (l_a rfl)]; rfl
  refine Wc e4 @FN ?_
  exact hK _ _ ⟨S.tl.tl.tl, rfl⟩
end
end
section
set_option maxHeartbeats 16000000
theorem a6N (h : c9) : d8 Tryz.prog 20 [] h fun v h' => v = .bool true ∧ Fr h h' [] := by
 have S := St.nil h
 refine EN i20.eq_1 fun K hK => Wa ?_
 refine cF S (b3O 1 _) fun h S => ?_
 refine Wa ?_
 refine tA S ?_
 clear S
 intro g h S
 (try simp (disch := first|omega|assumption|exact l_a rfl) only [go_sem, ↓wBk, simprocAttr, show z7.length = 7 from rfl])
 refine tS S rfl rfl (l_a rfl) ?_
 clear S
 intro h S
 refine Wa ?_
 exact hK _ _ ⟨rfl, S.fr⟩
theorem b5J (h : c9) : d8 Tryz.prog 23 [.pointer none] h fun v h' => v = .slice none 0 0 ∧ h' = h := by
 refine EN i23.eq_1 fun K hK => Wa ?_
 refine cE (b8R _) ?_
 refine Wa ?_
 refine LKp (Nat.zero_add 0) [8] (fun ρ h' => ρ 9 = .int .i64 0 ∧ ρ 3 = .slice none 0 0 ∧ h' = h) (fun _ _ => 0) ?_ ?_
 ·exact ⟨by ((refine Wa ?_); trivial), by ((refine Wa ?_); trivial), rfl⟩
 rintro ρ h J e8 hJ ⟨e9, e3, rfl⟩
 refine Wd e3 e8 e9 ?_
 exact hK _ _ ⟨rfl, rfl⟩
theorem b0W (h : c9) : d8 Tryz.prog 24 [.pointer none] h fun v h' => v = .agg #[.int .i64 0, .int .i64 0, .int .i64 0, .int .i64 0, .int .i64 0, .int .i64 0, .int .i64 0, .int .i64 0, .int .i64 0] ∧ Fr h h' [] := by
 have S := St.nil h
 refine EN i24.eq_1 fun K hK => Wa ?_
 (revert S; (try clear F); refine AL fun g h S F => ?_)
 refine Wa ?_
 (revert S; (try clear F); refine AL fun b h S F => ?_)
 refine Wb F ?_
 (revert S; (try clear F); refine ST fun h S F => ?_)
 refine Wb F ?_
 exact hK _ _ ⟨rfl, S.fr⟩
theorem b0z {C : Cfg} {U : List Unt} {s : Sag} {m : Nat} (hD : Stc C U) (P : Pl C U s m) : ∀ r ∈ s.R, b7I r := fun r hr => by
 obtain ⟨i, hi, rfl⟩ := V0 hr
 have e : s.R[i] = Wk.R ⟨s, []⟩ i := by unfold Wk.R; rw [l_s, l_r hi]; rfl
 rw [e]
 have hI := P.inv.ret i hi
 have hw := H6 hD hI (P.wf.len _ (C2 hi))
 have hp := hI.pos
 have ht : (Wk.R ⟨s, []⟩ i).paid + (Wk.R ⟨s, []⟩ i).credd + (Wk.R ⟨s, []⟩ i).given ≤ 858993459200 := by
  by_cases hf : fin (Wk.R ⟨s, []⟩ i)
  ·have := a3p hD P.inv (by omega) hi hf
   split at this <;> omega
  ·have h2 := hI.nil (fun h => hf (.inl h)) (fun h => hf (.inr h))
   unfold tol at h2
   omega
 unfold b7I
 omega
theorem b2j (C : Cfg) (A : Option Addr) (c : Nat) (xs : List i4) (n : Int) (h0 : c9) (hC : C.ok h0) (ha : Arr i4.enc 12 h0 A xs) (hl : xs.length ≤ c) (hcm : c ≤ maxLen) (hx : ∀ x ∈ xs, x.ok h0) (hn : I64 n) :
  d8 Tryz.prog 5 [.agg C.enc.toArray, .slice A xs.length c, .int .i64 n] h0 fun v h' => v = .bool true ∧ Fr h0 h' [] := by
 have hm : maxLen = 9223372036854775807 := rfl
 obtain ⟨r, w⟩ := hC
 have S := St.nil h0
 have r' : ∀ {l : List HP} (h' : c9), St h0 h' l → C.rd h' := fun h' S => r.fr S.fr
 refine EN i5.eq_1 fun K hK => Wa ?_
 (revert S; (try clear F); refine AL fun g h S F => ?_)
 refine Wa ?_
 refine cF S (a6N _) fun h S => ?_
 ((try clear F); have F := S.fx)
 refine Wb F ?_
 refine cF S (c0E C xs 60 (by omega) (by omega) (r' _ S) w (ha.fr S.fr (by simp))) fun h S => ?_
 by_cases hf : fewS C xs 60
 case neg =>
  rw [dF hf]
  refine Wa ?_
  refine cF S (a6N _) fun h S => ?_
  refine Wa ?_
  exact hK _ _ ⟨rfl, S.fr⟩
 rw [dT hf]
 ((try clear F); have F := S.fx)
 refine Wb F ?_
 obtain ⟨hxl, hxu, f1, f2, f3, f4⟩ := hf
 have f4' : ∀ o ∈ C.os, o.ls.length < 1000000 := fun o ho => by have := f4 o ho; omega
 refine cI (b6a C A c xs r w (by omega) (by omega) (by omega) f4' ha (by omega) hx hxu S) ?_
 clear S F
 rintro _ h (⟨_, rfl, S⟩ | ⟨hok, p, L, D, Au, Bu, cu, du, s, rfl, hp, hD, P, S⟩)
 ·refine Wa ?_
  refine cF S (b3O n _) fun h S => ?_
  refine Wa ?_
  refine tA S ?_
  clear S
  intro b h S
  (try simp (disch := first|omega|assumption|exact l_a rfl) only [go_sem, ↓wBk, simprocAttr, show z7.length = 7 from rfl])
  refine tS S rfl rfl (l_a rfl) ?_
  clear S
  intro h S
  have FN : rdN h b 0 7 = some z7 := by rw [m7 S.blk (l_a rfl)]; rfl
  refine Wc @FN @z7.eq_1 ?_
  refine cE (b5J _) ?_
  refine Wa ?_
  refine cF S (b0W _) fun h S => ?_
  refine Wa ?_
  exact hK _ _ ⟨rfl, S.fr⟩
 have hrl := P.wf.rl
 have hol := P.wf.ol
 simp only at hrl hol
 have S : St h0 h (D5 p D (.slice Au (j7 C).length cu) s :: a5S D (.slice Au (j7 C).length cu) (j7 C) :: n7 L C (.slice Bu (j7 C).length du) ⟨s, []⟩ :: f8 Unt.enc 4 74 (.slice Bu (j7 C).length du) (j7 C) :: [d9 g C.enc 26]) := S
 refine Wa ?_
 refine cI (c3z n S hrl (fun r hr => by have := Wk.wf.len P.wf r hr; omega) (b0z hD P) (by omega)) ?_
 clear S
 have hol2 : s.O.length < 1000000 := by omega
 have hsm := b0z hD P
 have hWm : ∀ {h : c9} {l : List HP}, St h0 h (n7 L C (.slice Bu (j7 C).length du) ⟨s, []⟩ :: l) → d8 Tryz.prog 25 [.pointer (some ⟨L.p, 0, none⟩), .int .i64 n] h fun v h' => v = .int .i64 (j5 n s.O) ∧ h' = h := fun S => a8q n S hol2
 rintro _ h ⟨S, ⟨hn, rfl⟩ | ⟨i, hi, rfl, rfl⟩⟩
 ·refine Wa ?_
  refine tA S ?_
  clear S
  intro b h S
  (try simp (disch := first|omega|assumption|exact l_a rfl) only [go_sem, ↓wBk, simprocAttr, show z7.length = 7 from rfl])
  refine tS S rfl rfl (l_a rfl) ?_
  clear S
  intro h S
  have FN : rdN h b 0 7 = some z7 := by rw [m7 S.blk (l_a rfl)]; rfl
  have FR := S.p3.mrR
  by_cases d1 : n < 1
  ·refine Wd d1 @FN @z7.eq_1 ?_
   exact hK _ _ ⟨rfl, S.fr⟩
  have d2 : (s.R.length : Int) < n := by omega
  refine Wf d1 @FR d2 @FN @z7.eq_1 ?_
  exact hK _ _ ⟨rfl, S.fr⟩
 have d1 : ¬ (i : Int) + 1 < 1 := by omega
 have d2 : ¬ (s.R.length : Int) < (i : Int) + 1 := by omega
 have hi1 : (i : Int) + 1 - 1 = (i : Int) := by omega
 have hq7 : (stQ s.R[i] (j5 ((i : Int) + 1) s.O)).length = 7 := rfl
 refine Wb hq7 ?_
 refine tA S ?_
 clear S
 intro b h S
 refine Wb hq7 ?_
 refine tS S rfl rfl (l_a rfl) ?_
 clear S
 intro h S
 have S : St h0 h (n7 L C (.slice Bu (j7 C).length du) ⟨s, []⟩ :: d9 b (stQ s.R[i] (j5 ((i : Int) + 1) s.O)) 56 :: D5 p D (.slice Au (j7 C).length cu) s :: a5S D (.slice Au (j7 C).length cu) (j7 C) :: f8 Unt.enc 4 74 (.slice Bu (j7 C).length du) (j7 C) :: [d9 g C.enc 26]) := S.p3
 have FR := S.mrR
 simp only at FR
 obtain ⟨br, hA⟩ : ∃ b, L.A = some ⟨b, 0, none⟩ := by
  obtain ⟨k, t, o, sd, vs, hv, S⟩ := St.mo.1 S
  exact (St.p4 S).ownAt (by rw [← l_z (f := f9.r), hv]; show 0 < s.R.length; omega)
 obtain ⟨y, hy, -, q14, -, -⟩ := S.moRet hA hi
 have e : Wk.R ⟨s, []⟩ i = s.R[i] := by unfold Wk.R; rw [l_s, l_r hi]; rfl
 rw [e] at hy
 rw [hA] at FR
 have hsmi := hsm _ (l_v hi)
 rw [← hy] at hsmi hq7 S
 obtain ⟨m1, m2, m3, m4⟩ := hsmi
 have hy14 : y.enc.length = 14 := rfl
 refine Wg d1 @FR d2 hi1 q14 hy14 ?_
 refine tA S ?_
 clear S FR q14
 intro q h S
 refine Wb hy14 ?_
 refine tS S rfl rfl (l_a rfl) ?_
 clear S
 intro h S
 have F : ∀ off, rd1 h (.pointer (some ⟨q, off, none⟩)) = y.enc[off]? := fun off => i7 S.blk
 have FN : rdN h b 0 7 = some (stQ y.r (j5 ((i : Int) + 1) s.O)) := by rw [m7 S.p2.blk (l_a rfl)]; rfl
 have hc : (y.r.state = 5) ∨ (¬ y.r.state = 5 ∧ y.r.state = 6) ∨ (¬ y.r.state = 5 ∧ ¬ y.r.state = 6) := by omega
 rcases hc with c | c | c
 ·have ho2 : a3g y.r = y.r.worth - y.r.paid - y.r.credd - y.r.given := if_pos (.inl c)
  (try simp (disch := first|omega|assumption|exact l_a rfl) only [go_sem, ↓wBk, simprocAttr, F, f9.enc, eq_true c])
  refine dE ?_
  refine Wf F @f9.enc.eq_1 @FN @stQ.eq_1 ho2 ?_
  refine cI (hWm S.p1) ?_
  rintro _ _ ⟨rfl, rfl⟩
  refine ⟨rfl, ?_⟩
  refine Wa ?_
  exact hK _ _ ⟨rfl, S.fr⟩
 ·obtain ⟨c1, c2⟩ := c
  have ho2 : a3g y.r = y.r.worth - y.r.paid - y.r.credd - y.r.given := if_pos (.inr c2)
  (try simp (disch := first|omega|assumption|exact l_a rfl) only [go_sem, ↓wBk, simprocAttr, F, f9.enc, c1, eq_true c2])
  refine dE ?_
  refine Wf F @f9.enc.eq_1 @FN @stQ.eq_1 ho2 ?_
  refine cI (hWm S.p1) ?_
  rintro _ _ ⟨rfl, rfl⟩
  refine ⟨rfl, ?_⟩
  refine Wa ?_
  exact hK _ _ ⟨rfl, S.fr⟩
 ·have ho2 : a3g y.r = 0 := if_neg (by omega)
  refine Wd F @f9.enc.eq_1 c ?_
  refine dE ?_
  refine Wf F @f9.enc.eq_1 @FN @stQ.eq_1 ho2 ?_
  refine cI (hWm S.p1) ?_
  rintro _ _ ⟨rfl, rfl⟩
  refine ⟨rfl, ?_⟩
  refine Wa ?_
  exact hK _ _ ⟨rfl, S.fr⟩
end
end Go.Proofs.YtjagmebglhbdkaaGreat.MX
