import Derived.Test.YtcgbhcgfdcfmaaaGreatK16
namespace Go.Proofs.YtcgbhcgfdcfmaaaGreat.MX
open Go Go.Proofs
set_option linter.unusedSimpArgs false
set_option linter.unusedVariables false
def Pol.fee (p : Pol) : Nat → Int | 0 => p.f0 | 1 => p.f1 | 2 => p.f2 | _ => p.f3
def Pol.sh (p : Pol) : Nat → Int | 0 => p.s0 | 1 => p.s1 | 2 => p.s2 | _ => p.s3
def Pol.to (p : Pol) : Nat → Int | 0 => p.t0 | 1 => p.t1 | 2 => p.t2 | _ => p.t3
def Pol.okAt (p : Pol) (i : Nat) : Prop := M8 (p.fee i) ∧ T1 (p.sh i) (p.to i)
theorem Pol.right_iff (p : Pol) : p.right ↔ (∀ i, i < 4 → p.okAt i) ∧ 0 ≤ p.w ∧ p.w ≤ 1000 := by
 constructor
 ·rintro ⟨⟨a0, a1, a2, a3⟩, ⟨b0, b1, b2, b3⟩, hw⟩
  refine ⟨fun i hi => ?_, hw⟩
  obtain rfl | rfl | rfl | rfl : i = 0 ∨ i = 1 ∨ i = 2 ∨ i = 3 := by omega
  ·exact ⟨a0, b0⟩
  ·exact ⟨a1, b1⟩
  ·exact ⟨a2, b2⟩
  ·exact ⟨a3, b3⟩
 ·rintro ⟨h, hw⟩
  have h0 := h 0 (by omega)
  have h1 := h 1 (by omega)
  have h2 := h 2 (by omega)
  have h3 := h 3 (by omega)
  exact ⟨⟨h0.1, h1.1, h2.1, h3.1⟩, ⟨h0.2, h1.2, h2.2, h3.2⟩, hw⟩
theorem Pol.enc_fee (p : Pol) {i : Nat} (hi : i < 4) : p.enc[4 + i]? = some (.int .i64 (p.fee i)) := by
 obtain rfl | rfl | rfl | rfl : i = 0 ∨ i = 1 ∨ i = 2 ∨ i = 3 := by omega
 all_goals rfl
theorem Pol.enc_gr (p : Pol) {i : Nat} (hi : i < 4) : (p.enc.drop (8 + i * 2)).take 2 = [.int .i64 (p.sh i), .int .i64 (p.to i)] := by
 obtain rfl | rfl | rfl | rfl : i = 0 ∨ i = 1 ∨ i = 2 ∨ i = 3 := by omega
 all_goals rfl
set_option maxHeartbeats 4000000 in
theorem a5f (p : Pol) (h0 : c9) : d8 Tryz.prog 60 [.agg p.enc.toArray] h0 fun v h' => v = .bool (dcd p.right) ∧ Fr h0 h' [] := by
 have S := St.nil h0
 have hel : p.enc.length = 16 := rfl
 refine EN i60.eq_1 fun K hK => Wa ?_
 (revert S; (try clear F); refine AL fun b h S F => ?_)
 refine Wb F ?_
 refine lI (fun ρ h' => ρ 1 = .pointer (some ⟨b, 0, none⟩) ∧ ∃ i : Nat, ρ 5 = .int .i64 i ∧ i ≤ 4 ∧ (∀ j, j < i → p.okAt j) ∧ St h0 h' [f8 b p.enc 105]) (fun ρ _ => 4 - (iv (ρ 5)).toNat) ?_ ?_
 ·refine Wa ?_
  exact ⟨0, rfl, by omega, by omega, S⟩
 ·clear S F
  rintro ρ h' J hJ ⟨e1, i, e5, hi, hok, S⟩
  refine Wb e5 ?_
  refine cD (fun hg => ?_) (fun hg => ?_)
  ·have hi4 : i < 4 := by omega
   have g1 := p.enc_fee hi4
   have g2 := p.enc_gr hi4
   have hfail : ¬ p.okAt i → ¬ p.right := fun h1 h2 => h1 (p.right_iff.1 h2 |>.1 i hi4)
   have hnext : p.okAt i → ∀ j, j < i + 1 → p.okAt j := fun h1 j hj => by
    rcases Nat.lt_or_ge j i with h2 | h2
    ·exact hok j h2
    ·obtain rfl : j = i := by omega
     exact h1
   simp only [Pol.okAt] at hfail hnext
   generalize p.fee i = f at g1 hfail hnext
   generalize p.sh i = s at g2 hfail hnext
   generalize p.to i = t at g2 hfail hnext
   ((try clear F); have F := S.fx)
   refine Wf e1 e5 F @x5 g2 ?_
   (revert S; (try clear F); refine AL fun q h S F => ?_)
   refine Wg e1 e5 F @x5 g1 g2 ?_
   (revert S; (try clear F); refine ST fun h S F => ?_)
   refine Wf e1 e5 F @x5 g1 ?_
   refine cI (a2A _ _) ?_
   rintro _ _ ⟨rfl, rfl⟩
   have S' := S.tl
   by_cases hf : M8 f
   ·refine Wb F ?_
    refine cI (a2A _ _) ?_
    rintro _ _ ⟨rfl, rfl⟩
    by_cases hs : M8 s
    ·by_cases ht : T1 s t
     ·have hgo : p.okAt i → True := fun _ => trivial
      rcases ht.2 with ⟨ht0, hs0⟩ | ⟨ht3, ht5⟩
      ·refine Wd F e1 e5 ?_
       refine hJ _ _ ?_ ?_
       ·refine Wc e1 e5 ?_
        exact ⟨i + 1, rfl, by omega, hnext ⟨hf, ht⟩, S'⟩
       ·refine Wb e5 ?_
        omega
      ·obtain rfl | rfl | rfl : t = 3 ∨ t = 4 ∨ t = 5 := by omega
       all_goals
        refine Wd F e1 e5 ?_
        refine hJ _ _ ?_ ?_
        ·refine Wc e1 e5 ?_
         exact ⟨i + 1, rfl, by omega, hnext ⟨hf, ht⟩, S'⟩
        ·refine Wb e5 ?_
         omega
     ·have hr : ¬ p.right := hfail fun h => ht h.2
      by_cases ht0 : t = 0
      ·have hs0 : ¬ s = 0 := fun h => ht ⟨hs, .inl ⟨ht0, h⟩⟩
       refine Wb F ?_
       exact hK _ _ ⟨by rw [dF hr], S.fr⟩
      ·have ht3 : ¬ t = 3 := fun h => ht ⟨hs, .inr (by omega)⟩
       have ht4 : ¬ t = 4 := fun h => ht ⟨hs, .inr (by omega)⟩
       have ht5 : ¬ t = 5 := fun h => ht ⟨hs, .inr (by omega)⟩
       refine Wb F ?_
       exact hK _ _ ⟨by rw [dF hr], S.fr⟩
    ·have hr : ¬ p.right := hfail fun h => hs h.2.1
     refine Wb F ?_
     exact hK _ _ ⟨by rw [dF hr], S.fr⟩
   ·have hr : ¬ p.right := hfail fun h => hf h.1
    refine Wb F ?_
    exact hK _ _ ⟨by rw [dF hr], S.fr⟩
  ·obtain rfl : i = 4 := by omega
   ((try clear F); have F := S.fx)
   have gw : p.enc[0]? = some (.int .i64 p.w) := rfl
   by_cases hw0 : 0 ≤ p.w
   ·by_cases h1 : p.w ≤ 1000
    ·refine Wd e1 F gw ?_
     exact hK _ _ ⟨by rw [dT]; exact p.right_iff.2 ⟨hok, hw0, h1⟩, S.fr⟩
    ·refine Wd e1 F gw ?_
     exact hK _ _ ⟨by rw [dF]; exact fun h => h1 h.2.2.2, S.fr⟩
   ·refine Wd e1 F gw ?_
    exact hK _ _ ⟨by rw [dF]; exact fun h => hw0 h.2.2.1, S.fr⟩
theorem a5Q {A : Option Addr} {c : Nat} {xs : List Pol} {h0 : c9} (ha : Arr Pol.enc 16 h0 A xs) (hl : xs.length < 1000000000) :
  d8 Tryz.prog 35 [.slice A xs.length c] h0 fun v h' => v = .bool (dcd (Y2 xs)) ∧ Fr h0 h' [] := by
 have S := St.nil h0
 refine EN i35.eq_1 fun K hK => Wa ?_
 refine lI (fun ρ h' => ρ 0 = .slice A xs.length c ∧ ρ 5 = .int .i64 xs.length ∧ ∃ i : Nat, ρ 6 = .int .i64 i ∧ i ≤ xs.length ∧ i ≤ 16 ∧ (∀ p ∈ xs.take i, p.right) ∧ St h0 h' []) (fun ρ _ => xs.length - (iv (ρ 6)).toNat) ?_ ?_
 ·refine Wa ?_
  exact ⟨0, rfl, by omega, by omega, by simp, S⟩
 ·clear S
  rintro ρ h' J hJ ⟨e0, e5, i, e6, hi, hi16, hok, S⟩
  refine Wc e5 e6 ?_
  refine cD (fun hg => ?_) (fun hg => ?_)
  ·have hlt : i < xs.length := by omega
   by_cases h16 : i = 16
   ·refine Wc e0 e6 ?_
    exact hK _ _ ⟨by rw [dF]; exact fun h => by have := h.1; omega, S.fr⟩
   ·obtain ⟨b, off, rfl, hr1⟩ := (ha.fr S.fr (by simp)).at hlt
    refine Wd e0 e6 hr1 ?_
    refine cI (a5f xs[i] _) ?_
    rintro _ h ⟨rfl, hf⟩
    have S := S.frame hf
    refine Wa ?_
    refine a3y (fun hn => ?_) (fun hp => ?_)
    ·refine Wa ?_
     exact hK _ _ ⟨by rw [dF]; exact fun h => hn (h.2 _ (l_v hlt)), S.fr⟩
    ·refine Wb e6 ?_
     refine hJ _ _ ?_ ?_
     ·refine Wd e0 e5 e6 ?_
      refine ⟨i + 1, rfl, by omega, by omega, ?_, S⟩
      rw [l_t hlt]
      intro q hq
      rcases List.mem_append.1 hq with hq | hq
      ·exact hok q hq
      ·simp at hq; rw [hq]; exact hp
     ·refine Wb e6 ?_
      omega
  ·obtain rfl : i = xs.length := by omega
   rw [E8] at hok
   refine Wa ?_
   exact hK _ _ ⟨by rw [dT]; exact ⟨hi16, hok⟩, S.fr⟩
section
set_option maxHeartbeats 4000000
structure Lin where
 sku : Int
 cat : Int
 price : Int
 count : Int
def Lin.enc (x : Lin) : List Value := [.int .i64 x.sku, .int .i64 x.cat, .int .i64 x.price, .int .i64 x.count]
def Lin.ok (x : Lin) : Prop := I64 x.sku ∧ I64 x.cat ∧ I64 x.price ∧ I64 x.count
theorem Lin.enc_len (x : Lin) : x.enc.length = 4 := rfl
theorem Lin.enc_plain (x : Lin) : pC x.enc = true := rfl
theorem b9I {h : c9} {d : Nat} {cs : List Value} (hg : a1P Tryz.prog h d 93 cs) : ∃ x : Lin, cs = x.enc ∧ x.ok := by
 have hl : V2 Tryz.prog 3 93 = some [.int .i64, .int .i64, .int .i64, .int .i64] := by kernel_rfl
 obtain ⟨a0, _, rfl, w0, a1, _, rfl, w1, a2, _, rfl, w2, a3, _, rfl, w3, rfl⟩ := G1 3 hg hl
 exact ⟨⟨a0, a1, a2, a3⟩, rfl, v7 w0, v7 w1, v7 w2, v7 w3⟩
structure Sup where
 sku : Int
 price : Int
 count : Int
def Sup.enc (x : Sup) : List Value := [.int .i64 x.sku, .int .i64 x.price, .int .i64 x.count]
def Sup.ok (x : Sup) : Prop := I64 x.sku ∧ I64 x.price ∧ I64 x.count
theorem Sup.enc_len (x : Sup) : x.enc.length = 3 := rfl
theorem Sup.enc_plain (x : Sup) : pC x.enc = true := rfl
theorem c0a {h : c9} {d : Nat} {cs : List Value} (hg : a1P Tryz.prog h d 95 cs) : ∃ x : Sup, cs = x.enc ∧ x.ok := by
 have hl : V2 Tryz.prog 3 95 = some [.int .i64, .int .i64, .int .i64] := by kernel_rfl
 obtain ⟨a0, _, rfl, w0, a1, _, rfl, w1, a2, _, rfl, w2, rfl⟩ := G1 3 hg hl
 exact ⟨⟨a0, a1, a2⟩, rfl, v7 w0, v7 w1, v7 w2⟩
structure Odr where
 day : Int
 A : Option Addr
 c : Nat
 ls : List Lin
 disc : Int
 tax : Int
 ship : Int
def Odr.enc (o : Odr) : List Value := [.int .i64 o.day, .slice o.A o.ls.length o.c, .int .i64 o.disc, .int .i64 o.tax, .int .i64 o.ship]
theorem Odr.enc_len (x : Odr) : x.enc.length = 5 := rfl
theorem Odr.enc_plain (x : Odr) : pC x.enc = true := rfl
structure Odr.ok (h : c9) (o : Odr) : Prop where
 arr : Arr Lin.enc 4 h o.A o.ls
 le : o.ls.length ≤ o.c
 lt : o.c < 9223372036854775808
 ls : ∀ l ∈ o.ls, l.ok
 day : I64 o.day
 disc : I64 o.disc
 tax : I64 o.tax
 ship : I64 o.ship
theorem c0k {h : c9} {d : Nat} {cs : List Value} (hg : a1P Tryz.prog h d 90 cs) : ∃ o : Odr, cs = o.enc ∧ o.ok h := by
 have hl : V2 Tryz.prog 3 90 = some [.int .i64, .slice 93, .int .i64, .int .i64, .int .i64] := by kernel_rfl
 obtain ⟨a0, _, rfl, w0, v, _, rfl, g, a2, _, rfl, w2, a3, _, rfl, w3, a4, _, rfl, w4, rfl⟩ := G1 3 hg hl
 obtain ⟨A, c, xs, rfl, ha, h1, h2, h3⟩ := a0P.arr (enc := Lin.enc) (sz := 4) (by kernel_rfl) (by decide) g b9I
 have hm : maxLen = 9223372036854775807 := rfl
 exact ⟨⟨a0, A, c, xs, a2, a3, a4⟩, rfl, ha, h1, by show c < _; omega, h3, v7 w0, v7 w2, v7 w3, v7 w4⟩
structure Cfg where
 A1 : Option Addr
 c1 : Nat
 os : List Odr
 A2 : Option Addr
 c2 : Nat
 ss : List Sup
 A3 : Option Addr
 c3 : Nat
 ps : List Pol
def Cfg.enc (C : Cfg) : List Value := [.slice C.A1 C.os.length C.c1, .slice C.A2 C.ss.length C.c2, .slice C.A3 C.ps.length C.c3]
theorem Cfg.enc_len (x : Cfg) : x.enc.length = 3 := rfl
structure Cfg.rd (h : c9) (C : Cfg) : Prop where
 os : Arr Odr.enc 5 h C.A1 C.os
 ls : ∀ o ∈ C.os, Arr Lin.enc 4 h o.A o.ls
 ss : Arr Sup.enc 3 h C.A2 C.ss
 ps : Arr Pol.enc 16 h C.A3 C.ps
theorem Cfg.rd.fr {h h' : c9} {C : Cfg} (r : C.rd h) (hf : Fr h h' []) : C.rd h' :=
 ⟨r.os.fr hf (by simp), fun o ho => (r.ls o ho).fr hf (by simp), r.ss.fr hf (by simp), r.ps.fr hf (by simp)⟩
structure Cfg.wf (C : Cfg) : Prop where
 l1 : C.os.length ≤ C.c1
 m1 : C.c1 < 9223372036854775808
 l2 : C.ss.length ≤ C.c2
 m2 : C.c2 < 9223372036854775808
 l3 : C.ps.length ≤ C.c3
 m3 : C.c3 < 9223372036854775808
 ol : ∀ o ∈ C.os, o.ls.length ≤ o.c ∧ o.c < 9223372036854775808
structure Cfg.ok (h : c9) (C : Cfg) : Prop where
 rd : C.rd h
 wf : C.wf
theorem b9A {h : c9} {d : Nat} {cs : List Value} (hg : a1P Tryz.prog h d 26 cs) : ∃ C : Cfg, cs = C.enc ∧ C.ok h := by
 have hl : V2 Tryz.prog 3 26 = some [.slice 90, .slice 95, .slice 105] := by kernel_rfl
 obtain ⟨v1, _, rfl, g1, v2, _, rfl, g2, v3, _, rfl, g3, rfl⟩ := G1 3 hg hl
 have hm : maxLen = 9223372036854775807 := rfl
 obtain ⟨A1, c1, os, rfl, ha1, p1, q1, k1⟩ := a0P.arr (enc := Odr.enc) (sz := 5) (ok := Odr.ok h) (by kernel_rfl) (by decide) g1 c0k
 obtain ⟨A2, c2, ss, rfl, ha2, p2, q2, k2⟩ := a0P.arr (enc := Sup.enc) (sz := 3) (by kernel_rfl) (by decide) g2 c0a
 obtain ⟨A3, c3, ps, rfl, ha3, p3, q3, k3⟩ := a0P.arr (enc := Pol.enc) (sz := 16) (by kernel_rfl) (by decide) g3 b9w
 exact ⟨⟨A1, c1, os, A2, c2, ss, A3, c3, ps⟩, rfl, ⟨ha1, fun o ho => (k1 o ho).arr, ha2, ha3⟩, ⟨p1, by show c1 < _; omega, p2, by show c2 < _; omega, p3, by show c3 < _; omega, fun o ho => ⟨(k1 o ho).le, (k1 o ho).lt⟩⟩⟩
def y9 (n : Int) : Prop := 0 ≤ n ∧ n ≤ 1073741824
def a5y (sku p count : Int) : Prop := (1 ≤ sku ∧ sku ≤ 1000) ∧ y9 p ∧ (1 ≤ count ∧ count ≤ 50)
def F7 (k : Int) (l : Lin) : Prop := a5y l.sku l.price l.count ∧ 0 ≤ l.cat ∧ l.cat < k
def M4 (ls : List Lin) : Int := (ls.map fun l => l.price * l.count).sum
def B7 (ls : List Lin) : Int := (ls.map Lin.count).sum
def b0p (o : Odr) : Prop := (0 ≤ o.day ∧ o.day ≤ 100000) ∧ (1 ≤ o.ls.length ∧ o.ls.length ≤ 8) ∧ y9 o.disc ∧ y9 o.tax ∧ y9 o.ship
def A4 (k : Int) (o : Odr) : Prop := b0p o ∧ (∀ l ∈ o.ls, F7 k l) ∧ o.disc ≤ M4 o.ls
def a2Q (s : Sup) : Prop := a5y s.sku s.price s.count
def a3H (ss : List Sup) : Prop := (∀ s ∈ ss, a2Q s) ∧ ss.Pairwise (fun a b => a.sku ≠ b.sku)
def a3V (C : Cfg) : Int := (C.os.map fun o => B7 o.ls).sum + (C.ss.map Sup.count).sum
def C8 (C : Cfg) : Prop := Y2 C.ps ∧ C.os.length ≤ 20 ∧ C.ss.length ≤ 20 ∧ (∀ o ∈ C.os, A4 C.ps.length o) ∧ a3H C.ss ∧ a3V C ≤ 200
section
variable {h0 h : c9} {l : List HP}
theorem a1O (n : Int) (h : c9) : d8 Tryz.prog 106 [.int .i64 n] h fun v h' => v = .bool (dcd (y9 n)) ∧ h' = h := by
 by_cases h1 : (0 : Int) ≤ n
 ·by_cases h2 : n ≤ 1073741824
  ·refine EN i106.eq_1 fun K hK => ?_
   refine Wc h1 h2 ?_
   exact hK _ _ ⟨by rw [dT ⟨h1, h2⟩], rfl⟩
  ·refine EN i106.eq_1 fun K hK => ?_
   refine Wc h1 h2 ?_
   exact hK _ _ ⟨by rw [dF (fun h => h2 h.2)], rfl⟩
 ·refine EN i106.eq_1 fun K hK => ?_
  refine Wb h1 ?_
  exact hK _ _ ⟨by rw [dF (fun h => h1 h.1)], rfl⟩
theorem Y9 (n : Int) (h : c9) : d8 Tryz.prog 36 [.int .i64 n] h fun v h' => v = .bool (dcd (y9 n)) ∧ h' = h := by
 by_cases h1 : (0 : Int) ≤ n
 ·by_cases h2 : n ≤ 1073741824
  ·refine EN i36.eq_1 fun K hK => ?_
   refine Wc h1 h2 ?_
   exact hK _ _ ⟨by rw [dT ⟨h1, h2⟩], rfl⟩
  ·refine EN i36.eq_1 fun K hK => ?_
   refine Wc h1 h2 ?_
   exact hK _ _ ⟨by rw [dF (fun h => h2 h.2)], rfl⟩
 ·refine EN i36.eq_1 fun K hK => ?_
  refine Wb h1 ?_
  exact hK _ _ ⟨by rw [dF (fun h => h1 h.1)], rfl⟩
theorem b1G (sku p count : Int) (h : c9) : d8 Tryz.prog 66 [.int .i64 sku, .int .i64 p, .int .i64 count] h fun v h' => v = .bool (dcd (a5y sku p count)) ∧ h' = h := by
 by_cases h1 : (1 : Int) ≤ sku
 case neg =>
  refine EN i66.eq_1 fun K hK => ?_
  refine Wb h1 ?_
  exact hK _ _ ⟨by rw [dF (fun h => h1 h.1.1)], rfl⟩
 by_cases h2 : sku ≤ 1000
 case neg =>
  refine EN i66.eq_1 fun K hK => ?_
  refine Wc h1 h2 ?_
  exact hK _ _ ⟨by rw [dF (fun h => h2 h.1.2)], rfl⟩
 refine EN i66.eq_1 fun K hK => ?_
 refine Wc h1 h2 ?_
 refine cI (a1O p _) ?_
 rintro _ _ ⟨rfl, rfl⟩
 by_cases h3 : y9 p
 case neg =>
  rw [dF h3]
  refine Wa ?_
  exact hK _ _ ⟨by rw [dF (fun h => h3 h.2.1)], rfl⟩
 rw [dT h3]
 by_cases h4 : (1 : Int) ≤ count
 case neg =>
  refine Wb h4 ?_
  exact hK _ _ ⟨by rw [dF (fun h => h4 h.2.2.1)], rfl⟩
 by_cases h5 : count ≤ 50
 case neg =>
  refine Wc h4 h5 ?_
  exact hK _ _ ⟨by rw [dF (fun h => h5 h.2.2.2)], rfl⟩
 refine Wc h4 h5 ?_
 exact hK _ _ ⟨by rw [dT ⟨⟨h1, h2⟩, h3, h4, h5⟩], rfl⟩
theorem a2e {k : Int} {l : Lin} (hl : F7 k l) : 0 ≤ l.price * l.count ∧ l.price * l.count ≤ 53687091200 := by
 obtain ⟨⟨_, ⟨p0, p1⟩, c0, c1⟩, _⟩ := hl
 refine ⟨Int.mul_nonneg p0 (by omega), ?_⟩
 have h1 : l.price * l.count ≤ 1073741824 * l.count := Int.mul_le_mul_of_nonneg_right p1 (by omega)
 omega
theorem G3 {k : Int} : ∀ {ls : List Lin}, (∀ l ∈ ls, F7 k l) → 0 ≤ M4 ls ∧ M4 ls ≤ 53687091200 * ls.length ∧ (ls.length : Int) ≤ B7 ls ∧ B7 ls ≤ 50 * ls.length
 | [], _ => by simp [M4, B7]
 | x :: ls, h => by
  have h1 := a2e (h x (by simp))
  obtain ⟨⟨_, _, c0, c1⟩, _⟩ := h x (by simp)
  have h2 := G3 (ls := ls) fun y hy => h y (by simp [hy])
  unfold M4 B7 at h2 ⊢
  simp only [G0, F3, l_f]
  omega
theorem a5B {ls : List Lin} {i : Nat} (hi : i < ls.length) : M4 (ls.take (i + 1)) = M4 (ls.take i) + ls[i].price * ls[i].count := by
 rw [l_t hi, M4, N5, a0o]
 simp [M4]
theorem a0u {ls : List Lin} {i : Nat} (hi : i < ls.length) : B7 (ls.take (i + 1)) = B7 (ls.take i) + ls[i].count := by
 rw [l_t hi, B7, N5, a0o]
 simp [B7]
end
end
section
set_option maxHeartbeats 8000000
theorem a5X {h0 : c9} (o : Odr) (k : Int) (ha : Arr Lin.enc 4 h0 o.A o.ls) (hl : o.ls.length < 1000000000) :
  d8 Tryz.prog 65 [.agg o.enc.toArray, .int .i64 k] h0 fun v h' => (∃ n : Int, v = .tuple #[.int .i64 n, .bool (dcd (A4 k o))] ∧ (A4 k o → n = B7 o.ls)) ∧ Fr h0 h' [] := by
 have S := St.nil h0
 by_cases d1 : o.day < 0
 ·refine EN i65.eq_1 fun K hK => Wa ?_
  (revert S; (try clear F); refine AL fun g h S F => ?_)
  refine Wd F @Odr.enc.eq_1 d1 ?_
  exact hK _ _ ⟨⟨0, by rw [dF (fun h => by have := h.1.1.1; omega)], fun h => by have := h.1.1.1; omega⟩, S.fr⟩
 by_cases d2 : 100000 < o.day
 ·refine EN i65.eq_1 fun K hK => Wa ?_
  (revert S; (try clear F); refine AL fun g h S F => ?_)
  refine We F @Odr.enc.eq_1 d1 d2 ?_
  exact hK _ _ ⟨⟨0, by rw [dF (fun h => by have := h.1.1.2; omega)], fun h => by have := h.1.1.2; omega⟩, S.fr⟩
 by_cases d3 : (o.ls.length : Int) < 1
 ·refine EN i65.eq_1 fun K hK => Wa ?_
  (revert S; (try clear F); refine AL fun g h S F => ?_)
  refine Wf F @Odr.enc.eq_1 d1 d2 d3 ?_
  exact hK _ _ ⟨⟨0, by rw [dF (fun h => by have := h.1.2.1.1; omega)], fun h => by have := h.1.2.1.1; omega⟩, S.fr⟩
 by_cases d4 : 8 < (o.ls.length : Int)
 ·refine EN i65.eq_1 fun K hK => Wa ?_
  (revert S; (try clear F); refine AL fun g h S F => ?_)
  refine Wg F @Odr.enc.eq_1 d1 d2 d3 d4 ?_
  exact hK _ _ ⟨⟨0, by rw [dF (fun h => by have := h.1.2.1.2; omega)], fun h => by have := h.1.2.1.2; omega⟩, S.fr⟩
 refine EN i65.eq_1 fun K hK => Wa ?_
 (revert S; (try clear F); refine AL fun g h S F => ?_)
 refine Wg F @Odr.enc.eq_1 d1 d2 d3 d4 ?_
 refine cI (a1O _ _) ?_
 rintro _ _ ⟨rfl, rfl⟩
 by_cases d5 : y9 o.disc
 case neg =>
  rw [dF d5]
  refine Wa ?_
  exact hK _ _ ⟨⟨0, by rw [dF (fun h => d5 h.1.2.2.1)], fun h => (d5 h.1.2.2.1).elim⟩, S.fr⟩
 rw [dT d5]
 refine Wc F @Odr.enc.eq_1 ?_
 refine cI (a1O _ _) ?_
 rintro _ _ ⟨rfl, rfl⟩
 by_cases d6 : y9 o.tax
 case neg =>
  rw [dF d6]
  refine Wa ?_
  exact hK _ _ ⟨⟨0, by rw [dF (fun h => d6 h.1.2.2.2.1)], fun h => (d6 h.1.2.2.2.1).elim⟩, S.fr⟩
 rw [dT d6]
 refine Wc F @Odr.enc.eq_1 ?_
 refine cI (a1O _ _) ?_
 rintro _ _ ⟨rfl, rfl⟩
 by_cases d7 : y9 o.ship
 case neg =>
  rw [dF d7]
  refine Wa ?_
  exact hK _ _ ⟨⟨0, by rw [dF (fun h => d7 h.1.2.2.2.2)], fun h => (d7 h.1.2.2.2.2).elim⟩, S.fr⟩
 rw [dT d7]
 have hhead : b0p o := ⟨⟨by omega, by omega⟩, ⟨by omega, by omega⟩, d5, d6, d7⟩
 refine Wc F @Odr.enc.eq_1 ?_
 refine lI (fun ρ h' => ρ 1 = .int .i64 k ∧ ρ 2 = .pointer (some ⟨g, 0, none⟩) ∧ ρ 49 = .slice o.A o.ls.length o.c ∧ ρ 50 = .int .i64 o.ls.length ∧ ∃ i : Nat, ρ 51 = .int .i64 i ∧ i ≤ o.ls.length ∧ (∀ l ∈ o.ls.take i, F7 k l) ∧ ρ 6 = .int .i64 (B7 (o.ls.take i)) ∧ ρ 7 = .int .i64 (M4 (o.ls.take i)) ∧
  St h0 h' [f8 g o.enc 90]) (fun ρ _ => o.ls.length - (iv (ρ 51)).toNat) ?_ ?_
 ·refine Wa ?_
  exact ⟨0, rfl, by omega, by simp, rfl, rfl, S⟩
 clear S F
 rintro ρ h J hJ ⟨e1, e2, e49, e50, i, e51, hi, hok, e6, e7, S⟩
 refine Wc e50 e51 ?_
 refine cD (fun hlt => ?_) (fun hlt => ?_)
 ·have hil : i < o.ls.length := by omega
  obtain ⟨b, off, hA, hr1⟩ := (ha.fr S.fr (by simp)).at hil
  have hlb := G3 hok
  have hlen : (o.ls.take i).length ≤ 8 := by rw [u6]; omega
  have hmem := l_v hil
  have hs1 := a5B hil
  have hs2 := a0u hil
  have hbad : ¬ F7 k o.ls[i] → ¬ A4 k o := fun hn h => hn (h.2.1 _ hmem)
  have htk : F7 k o.ls[i] → ∀ l ∈ o.ls.take (i + 1), F7 k l := fun hx l hl => by
   rw [l_t hil] at hl
   rcases List.mem_append.1 hl with hl | hl
   ·exact hok l hl
   ·rw [Q9] at hl; rw [hl]; exact hx
  generalize o.ls[i] = x at *
  refine We e49 e51 hA hr1 ?_
  (revert S; (try clear F); refine AL fun q h S F => ?_)
  refine Wc F @Lin.enc.eq_1 ?_
  (revert S; (try clear F); refine ST fun h S F => ?_)
  refine Wb F ?_
  refine cI (b1G _ _ _ _) ?_
  rintro _ _ ⟨rfl, rfl⟩
  by_cases c1 : a5y x.sku x.price x.count
  case neg =>
   rw [dF c1]
   refine Wa ?_
   exact hK _ _ ⟨⟨0, by rw [dF (hbad fun h => c1 h.1)], fun h => (hbad (fun h => c1 h.1) h).elim⟩, S.fr⟩
  rw [dT c1]
  by_cases c2 : x.cat < 0
  ·refine Wc F c2 ?_
   exact hK _ _ ⟨⟨0, by rw [dF (hbad fun h => by have := h.2.1; omega)], fun h => (hbad (fun h => by have := h.2.1; omega) h).elim⟩, S.fr⟩
  by_cases c3 : k ≤ x.cat
  ·refine We F c2 e1 c3 ?_
   exact hK _ _ ⟨⟨0, by rw [dF (hbad fun h => by have := h.2.2; omega)], fun h => (hbad (fun h => by have := h.2.2; omega) h).elim⟩, S.fr⟩
  have hx : F7 k x := ⟨c1, by omega, by omega⟩
  have hxb := a2e hx
  have w1 : IntKind.i64.wrap (B7 (o.ls.take i) + x.count) = B7 (o.ls.take i) + x.count := by
   have := c1.2.2
   exact m9 (by omega) (by omega)
  have w2 : IntKind.i64.wrap (x.price * x.count) = x.price * x.count := m9 (by omega) (by omega)
  have w3 : IntKind.i64.wrap (M4 (o.ls.take i) + x.price * x.count) = M4 (o.ls.take i) + x.price * x.count := m9 (by omega) (by omega)
  refine Wi F c2 e1 c3 e6 e7 w1 (Pd w2 w3 e51) ?_
  refine hJ _ _ ?_ ?_
  ·refine Wf e1 e2 e49 e50 hA ?_
   exact ⟨i + 1, rfl, by omega, htk hx, by rw [hs2], by rw [hs1], S.tl⟩
  ·refine Wb e51 ?_
   omega
 ·obtain rfl : i = o.ls.length := by omega
  rw [E8] at hok e6 e7
  ((try clear F); have F := S.fx)
  refine Wa ?_
  refine dE ?_
  refine Wf e2 e6 e7 F @Odr.enc.eq_1 ?_
  refine hK _ _ ⟨⟨_, congrArg (fun b => Value.tuple #[.int .i64 (B7 o.ls), .bool b]) (congrArg dcd (propext ⟨fun h => ⟨hhead, hok, h⟩, fun h => h.2.2⟩)), fun _ => rfl⟩, S.fr⟩
end
section
set_option maxHeartbeats 8000000
theorem b7s {α : Type} {enc : α → List Value} {sz : Nat} {h : c9} {A : Option Addr} {xs : List α} (ha : Arr enc sz h A xs) (k : Nat) : Arr enc sz h A (xs.take k) := by
 intro i hi
 rw [u6] at hi
 obtain ⟨b, off, e, hr⟩ := ha i (by omega)
 exact ⟨b, off, e, by rw [List.getElem_take]; exact hr⟩
def u2 (os : List Odr) : Int := (os.map fun o => B7 o.ls).sum
def z0 (ss : List Sup) : Int := (ss.map Sup.count).sum
theorem a4e {os : List Odr} {i : Nat} (hi : i < os.length) : u2 (os.take (i + 1)) = u2 (os.take i) + B7 os[i].ls := by
 rw [l_t hi, u2, N5, a0o]
 simp [u2]
theorem X1 {ss : List Sup} {i : Nat} (hi : i < ss.length) : z0 (ss.take (i + 1)) = z0 (ss.take i) + ss[i].count := by
 rw [l_t hi, z0, N5, a0o]
 simp [z0]
theorem H9 {k : Int} : ∀ {os : List Odr}, (∀ o ∈ os, A4 k o) → 0 ≤ u2 os ∧ u2 os ≤ 400 * os.length
 | [], _ => by simp [u2]
 | x :: os, h => by
  obtain ⟨⟨_, hx, _⟩, h1, _⟩ := h x (by simp)
  have h1 := G3 h1
  have h2 := H9 (os := os) fun y hy => h y (by simp [hy])
  unfold u2 at h2 ⊢
  simp only [G0, F3, l_f]
  omega
theorem O0 : ∀ {ss : List Sup}, (∀ s ∈ ss, a2Q s) → 0 ≤ z0 ss ∧ z0 ss ≤ 50 * ss.length
 | [], _ => by simp [z0]
 | x :: ss, h => by
  obtain ⟨_, _, h1⟩ := h x (by simp)
  have h2 := O0 (ss := ss) fun y hy => h y (by simp [hy])
  unfold z0 at h2 ⊢
  simp only [G0, F3, l_f]
  omega
theorem a6x {ss : List Sup} {i : Nat} (hi : i < ss.length) (h : a3H (ss.take i)) (hs : a2Q ss[i]) (hn : ¬ ∃ x ∈ ss.take i, x.sku = ss[i].sku) : a3H (ss.take (i + 1)) := by
 rw [l_t hi]
 refine ⟨fun x hx => ?_, ?_⟩
 ·rcases List.mem_append.1 hx with hx | hx
  ·exact h.1 x hx
  ·rw [Q9] at hx; rw [hx]; exact hs
 ·rw [a1u]
  refine ⟨h.2, by simp, fun a ha b hb => ?_⟩
  rw [Q9] at hb
  rw [hb]
  exact fun e => hn ⟨a, ha, e⟩
theorem b1E {ss : List Sup} {i : Nat} (hi : i < ss.length) (h : a3H ss) : a2Q ss[i] ∧ ¬ ∃ x ∈ ss.take i, x.sku = ss[i].sku := by
 refine ⟨h.1 _ (l_v hi), ?_⟩
 rintro ⟨x, hx, e⟩
 have hp := h.2
 rw [show ss = ss.take i ++ ss.drop i from (C6 i ss).symm, a1u] at hp
 exact hp.2.2 x hx ss[i] (by rw [U6 hi]; exact l_n ..) e
section
variable {h0 h : c9} {l : List HP}
theorem b9X {p : Nat} {s : Sup} (S : St h0 h (f8 p s.enc 95 :: l)) : a4p Tryz.prog Sup.enc h [] (.func (.func 68) #[] (List.toArray [.pointer (some ⟨p, 0, none⟩)])) fun m => dcd (m.sku = s.sku) := by
 refine ⟨_, _, rfl, a3C, fun x h' hf => ?_⟩
 have S := S.frame hf
 have S2 : St h' h' [] := St.nil h'
 have hr : ∀ h'', Fr h' h'' [] → rd1 h'' (.pointer (some ⟨p, 0, none⟩)) = some (.int .i64 s.sku) := fun h'' hf => l9 (S.frame hf)
 refine EN i68.eq_1 fun K hK => Wa ?_
 refine tA S2 ?_
 clear S2
 intro b h'' S2
 ((try clear F); have F := S.fx)
 clear F
 have F := S2.fx
 (try simp (disch := first|omega|assumption|exact l_a rfl) only [go_sem, ↓wBk, simprocAttr, F, Sup.enc, hr _ S2.fr])
 exact hK _ _ ⟨rfl, S2.fr⟩
theorem a7g {p n c : Nat} {s : Sup} {A : Option Addr} {xs : List Sup} (S : St h0 h (f8 p s.enc 95 :: l)) (ha : Arr Sup.enc 3 h A xs) (hn : n = xs.length) (hl : xs.length < 1000000) :
  d8 Tryz.prog 67 [.slice A n c, .func (.func 68) #[] (List.toArray [.pointer (some ⟨p, 0, none⟩)])] h fun v h' => v = .bool (dcd (∃ x ∈ xs, x.sku = s.sku)) ∧ Fr h h' [] := by
 subst hn
 refine EN i67.eq_1 fun K hK => Wa ?_
 refine cI (M2 (sz := 3) (p := fun m : Sup => dcd (m.sku = s.sku)) i107.2 ha rfl (by omega) (b9X S)) ?_
 rintro _ h1 ⟨rfl, hf⟩
 rcases L1 (fun m : Sup => dcd (m.sku = s.sku)) xs 0 with ⟨hx, hall⟩ | ⟨i, hx, hil, hbef, hat⟩
 ·have hx : E9 (fun m : Sup => dcd (m.sku = s.sku)) xs 0 = -1 := hx
  refine Wb hx ?_
  refine hK _ _ ⟨?_, hf⟩
  rw [dF]
  rintro ⟨p, hp, hn⟩
  have := hall p hp
  rw [dT hn] at this
  cases this
 ·have hx : E9 (fun m : Sup => dcd (m.sku = s.sku)) xs 0 = (i : Int) := by simpa using hx
  refine Wb hx ?_
  refine hK _ _ ⟨?_, hf⟩
  have := hat xs[i] (l_r hil)
  rw [dT]
  exact ⟨xs[i], l_v hil, o7 this⟩
end
theorem b2q {h0 : c9} (C : Cfg) (r : C.rd h0) (w : C.wf) (l1 : C.os.length < 1000000) (l2 : C.ss.length < 1000000) (l3 : C.ps.length < 1000000) (l4 : ∀ o ∈ C.os, o.ls.length < 1000000) :
  d8 Tryz.prog 41 [.agg C.enc.toArray] h0 fun v h' => v = .bool (dcd (C8 C)) ∧ Fr h0 h' [] := by
 have S := St.nil h0
 have r' : ∀ {h' : c9} {l : List HP}, St h0 h' l → C.rd h' := fun S => r.fr S.fr
 refine EN i41.eq_1 fun K hK => Wa ?_
 (revert S; (try clear F); refine AL fun g h S F => ?_)
 refine Wc F @Cfg.enc.eq_1 ?_
 refine cI (a8v (r' S).ps rfl l3) ?_
 rintro _ h ⟨rfl, hf⟩
 have S := S.frame hf
 by_cases d1 : Y2 C.ps
 case neg =>
  rw [dF d1]
  refine Wa ?_
  exact hK _ _ ⟨by rw [dF (fun h => d1 h.1)], S.fr⟩
 rw [dT d1]
 ((try clear F); have F := S.fx)
 by_cases d2 : 20 < (C.os.length : Int)
 ·refine Wd F @Cfg.enc.eq_1 d2 ?_
  exact hK _ _ ⟨by rw [dF (fun h => by have := h.2.1; omega)], S.fr⟩
 by_cases d3 : 20 < (C.ss.length : Int)
 ·refine We F @Cfg.enc.eq_1 d2 d3 ?_
  exact hK _ _ ⟨by rw [dF (fun h => by have := h.2.2.1; omega)], S.fr⟩
 refine We F @Cfg.enc.eq_1 d2 d3 ?_
 refine lI (fun ρ h' => ρ 1 = .pointer (some ⟨g, 0, none⟩) ∧ ρ 27 = .slice C.A1 C.os.length C.c1 ∧ ρ 28 = .int .i64 C.os.length ∧ ∃ i : Nat, ρ 29 = .int .i64 i ∧ i ≤ C.os.length ∧ (∀ o ∈ C.os.take i, A4 C.ps.length o) ∧ ρ 3 = .int .i64 (u2 (C.os.take i)) ∧
  St h0 h' [f8 g C.enc 26]) (fun ρ _ => C.os.length - (iv (ρ 29)).toNat) ?_ ?_
 ·refine Wa ?_
  exact ⟨0, rfl, by omega, by simp, rfl, S⟩
 clear S F
 rintro ρ h J hJ ⟨e1, e27, e28, i, e29, hi, hok, e3, S⟩
 refine Wc e28 e29 ?_
 refine cD (fun hlt => ?_) (fun hlt => ?_)
 ·have hil : i < C.os.length := by omega
  obtain ⟨b, off, hA, hr1⟩ := (r' S).os.at hil
  have hmem := l_v hil
  have hlb := H9 hok
  have hlen : (C.os.take i).length ≤ 20 := by rw [u6]; omega
  have hs1 := a4e hil
  have hll := l4 _ hmem
  have hrl := fun {h'} {l'} (S : St h0 h' l') => (r' S).ls _ hmem
  have hbad : ¬ A4 C.ps.length C.os[i] → ¬ C8 C := fun hn h => hn (h.2.2.2.1 _ hmem)
  have htk : A4 C.ps.length C.os[i] → ∀ o ∈ C.os.take (i + 1), A4 C.ps.length o := fun hx o ho => by
   rw [l_t hil] at ho
   rcases List.mem_append.1 ho with ho | ho
   ·exact hok o ho
   ·rw [Q9] at ho; rw [ho]; exact hx
  generalize C.os[i] = x at *
  refine We e27 e29 hA hr1 ?_
  (revert S; (try clear F); refine AL fun q h S F => ?_)
  refine Wc F @Odr.enc.eq_1 ?_
  (revert S; (try clear F); refine ST fun h S F => ?_)
  refine Wd F e1 @Cfg.enc.eq_1 ?_
  refine cI (a5X x C.ps.length (hrl S) (by omega)) ?_
  rintro _ h ⟨⟨n, rfl, hn⟩, hf⟩
  have S := S.frame hf
  by_cases c1 : A4 C.ps.length x
  case neg =>
   rw [dF c1]
   refine Wa ?_
   exact hK _ _ ⟨by rw [dF (hbad c1)], S.fr⟩
  rw [dT c1, hn c1]
  have hxb := G3 c1.2.1
  have w1 : IntKind.i64.wrap (u2 (C.os.take i) + B7 x.ls) = u2 (C.os.take i) + B7 x.ls := by
   have := c1.1.2.1
   exact m9 (by omega) (by omega)
  refine Wd e3 w1 e29 ?_
  refine hJ _ _ ?_ ?_
  ·refine We e1 e27 e28 hA ?_
   exact ⟨i + 1, rfl, by omega, htk c1, by rw [hs1], S.tl⟩
  ·refine Wb e29 ?_
   omega
 obtain rfl : i = C.os.length := by omega
 rw [E8] at hok e3
 clear hJ
 have hob := H9 hok
 ((try clear F); have F := S.fx)
 refine Wd e1 F @Cfg.enc.eq_1 ?_
 refine lI (fun ρ h' => ρ 1 = .pointer (some ⟨g, 0, none⟩) ∧ ρ 48 = .slice C.A2 C.ss.length C.c2 ∧ ρ 49 = .int .i64 C.ss.length ∧ ∃ i : Nat, ρ 50 = .int .i64 i ∧ i ≤ C.ss.length ∧ a3H (C.ss.take i) ∧ ρ 3 = .int .i64 (u2 C.os + z0 (C.ss.take i)) ∧
  St h0 h' [f8 g C.enc 26]) (fun ρ _ => C.ss.length - (iv (ρ 50)).toNat) ?_ ?_
 ·refine Wc e1 e3 ?_
  exact ⟨0, rfl, by omega, ⟨by simp, by simp⟩, by simp [z0], S⟩
 clear S F e1 e27 e28 e29 e3
 rintro ρ h J hJ ⟨e1, e48, e49, i, e50, hi, hsu, e3, S⟩
 refine Wc e49 e50 ?_
 refine cD (fun hlt => ?_) (fun hlt => ?_)
 ·have hil : i < C.ss.length := by omega
  obtain ⟨b, off, hA, hr1⟩ := (r' S).ss.at hil
  have hsb := O0 hsu.1
  have hlen : (C.ss.take i).length ≤ 20 := by rw [u6]; omega
  have hs1 := X1 hil
  have hno := fun h : C8 C => b1E hil h.2.2.2.2.1
  have hsn := a6x hil hsu
  have hc2 := w.l2
  have hm2 := w.m2
  generalize C.ss[i] = x at *
  refine We e48 e50 hA hr1 ?_
  (revert S; (try clear F); refine AL fun q h S F => ?_)
  refine Wc F @Sup.enc.eq_1 ?_
  (revert S; (try clear F); refine ST fun h S F => ?_)
  refine Wb F ?_
  refine cI (b1G _ _ _ _) ?_
  rintro _ _ ⟨rfl, rfl⟩
  by_cases c1 : a5y x.sku x.price x.count
  case neg =>
   rw [dF c1]
   refine Wa ?_
   exact hK _ _ ⟨by rw [dF (fun h => c1 (hno h).1)], S.fr⟩
  rw [dT c1]
  refine Wd e1 F @Cfg.enc.eq_1 ?_
  refine cI (a7g (s := x) S (b7s (r' S).ss i) (by rw [u6]; omega) (by rw [u6]; omega)) ?_
  rintro _ h ⟨rfl, hf⟩
  have S := S.frame hf
  ((try clear F); have F := S.fx)
  by_cases c2 : ∃ y ∈ C.ss.take i, y.sku = x.sku
  ·rw [dT c2]
   refine Wa ?_
   exact hK _ _ ⟨by rw [dF (fun h => (hno h).2 c2)], S.fr⟩
  rw [dF c2]
  have w1 : IntKind.i64.wrap (u2 C.os + z0 (C.ss.take i) + x.count) = u2 C.os + z0 (C.ss.take i) + x.count := by
   have := c1.2.2
   exact m9 (by omega) (by omega)
  refine Wf e3 F w1 e50 @Sup.enc.eq_1 ?_
  refine hJ _ _ ?_ ?_
  ·refine We e1 e48 e49 hA ?_
   exact ⟨i + 1, rfl, by omega, hsn c1 c2, by rw [hs1, Int.add_assoc], S.tl⟩
  ·refine Wb e50 ?_
   omega
 obtain rfl : i = C.ss.length := by omega
 rw [E8] at hsu e3
 refine Wb e3 ?_
 exact hK _ _ ⟨congrArg Value.bool (congrArg dcd (propext ⟨fun h => ⟨d1, by omega, by omega, hok, hsu, h⟩, fun h => h.2.2.2.2.2⟩)), S.fr⟩
end

end Go.Proofs.YtcgbhcgfdcfmaaaGreat.MX
