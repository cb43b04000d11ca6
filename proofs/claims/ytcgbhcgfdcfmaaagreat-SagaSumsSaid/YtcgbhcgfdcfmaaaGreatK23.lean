import Derived.Test.YtcgbhcgfdcfmaaaGreatK22
import Derived.Test.YtcgbhcgfdcfmaaaGreatK10
namespace Go.Proofs.YtcgbhcgfdcfmaaaGreat.MX
open Go Go.Proofs
set_option linter.unusedSimpArgs false
set_option linter.unusedVariables false
section
set_option maxHeartbeats 8000000
set_option maxRecDepth 20000
def a9s (o : Odr) : HP := f9 Lin.enc 4 93 (.slice o.A o.ls.length o.c) o.ls
theorem a3z {h0 h : c9} {L : List HP} {X : HP} (S : St h0 h L) (hx : X ∈ L) : ∃ M, St h0 h (X :: M) := by
 obtain ⟨a, b, rfl⟩ := List.append_of_mem hx
 exact ⟨_, S.perm List.perm_middle⟩
theorem a8P {h0 h : c9} {L l : List HP} {os : List Odr} (S : St h0 h (L ++ (os.map a9s ++ l))) : ∀ o ∈ os, Arr Lin.enc 4 h o.A o.ls ∧ o.ls.length ≤ o.c ∧ o.c < 9223372036854775808 := fun o ho => by
 obtain ⟨M, S⟩ := a3z S (X := a9s o) (a2P _ (a0z _ (a3r ho)))
 obtain ⟨_, h1, h2⟩ := S.cap
 exact ⟨S.arr Lin.enc_len, h1, h2⟩
theorem b0c {k : Int} {x y : Odr} (h : x.pu = y.pu) : A4 k x → A4 k y := by
 obtain ⟨a1, A1, c1, l1, d1, t1, s1⟩ := x
 obtain ⟨a2, A2, c2, l2, d2, t2, s2⟩ := y
 simp only [Odr.pu, Prod.mk.injEq] at h
 obtain ⟨rfl, rfl, rfl, rfl, rfl⟩ := h
 exact id
theorem a6c : ∀ {xs ys : List Odr}, xs.map Odr.pu = ys.map Odr.pu → u2 xs = u2 ys
 | [], [], _ => rfl
 | x :: xs, y :: ys, h => by
  simp only [G0, List.cons.injEq] at h
  have h1 := a6c h.2
  have h2 : x.ls = y.ls := congrArg (fun z => z.2.2.2.2) h.1
  simp only [u2, G0, F3, h2] at h1 ⊢
  rw [h1]
 | [], y :: ys, h => by simp at h
 | x :: xs, [], h => by simp at h
theorem a9D {C D : Cfg} (h : C.pu = D.pu) (hok : C8 C) : C8 D := by
 have h1 : C.ps = D.ps := congrArg (fun z => z.1) h
 have h2 : C.ss = D.ss := congrArg (fun z => z.2.1) h
 have h3 : C.os.map Odr.pu = D.os.map Odr.pu := congrArg (fun z => z.2.2) h
 have hl : C.os.length = D.os.length := by have := congrArg List.length h3; simpa using this
 obtain ⟨k0, k1, k2, k3, k4, k5⟩ := hok
 refine ⟨h1 ▸ k0, by omega, by rw [← h2]; exact k2, fun o ho => ?_, h2 ▸ k4, ?_⟩
 ·have : o.pu ∈ C.os.map Odr.pu := by rw [h3]; exact a3r ho
  obtain ⟨x, hx, e⟩ := List.mem_map.1 this
  rw [← h1]
  exact b0c e (k3 x hx)
 ·have e1 : a3V C = u2 C.os + z0 C.ss := rfl
  have e2 : a3V D = u2 D.os + z0 D.ss := rfl
  rw [e2, ← a6c h3, ← h2, ← e1]
  exact k5
noncomputable def a5W (b : List UInt8) : List POd × Q := H1 b9M (vl 1 (K8 (b, false)).2).toNat (stp 1 (K8 (b, false)).2)
noncomputable def b7D (b : List UInt8) : List Sup × Q := H1 c0z (vl 1 (a5W b).2).toNat (stp 1 (a5W b).2)
def b9f (b : List UInt8) (C : Cfg) : Prop := C8 C ∧ b9q C.ps = (K8 (b, false)).1 ∧ C.os.map Odr.pu = (a5W b).1 ∧ C.ss = (b7D b).1 ∧ (b7D b).2 = ([], false)
section
variable {h0 h : c9} {l : List HP}
end
end
section
set_option maxHeartbeats 4000000
theorem C3 {n : Nat} {q : Q} (h : (stp n q).2 = false) : q.2 = false ∧ n ≤ q.1.length ∧ q.1 = le n (vl n q) ++ (stp n q).1 := by
 obtain ⟨bs, bad⟩ := q
 have hx : rdX n bs bad = false := h
 unfold rdX at hx
 simp only [Bool.or_eq_false_iff, decide_eq_false_iff_not] at hx
 obtain ⟨rfl, hl⟩ := hx
 refine ⟨rfl, by simp only; omega, ?_⟩
 show bs = le n (rdV n bs false) ++ rdB n bs false
 rw [rdV, rdB, if_neg (by simp; omega), if_neg (by simp; omega), b5f _ n (by rw [u6]; omega), C6]
theorem a8l {q : Q} (h : 0 ≤ vi q) : vi q = vl 8 q := by
 have hv := b0r 8 q.1 q.2
 have e : vl 8 q = rdV 8 q.1 q.2 := rfl
 rw [← e] at hv
 by_cases hb : vl 8 q < 9223372036854775808
 ·exact m9 (by omega) hb
 ·exfalso
  have h1 : vl 8 q < 18446744073709551616 := by simpa using hv.2
  have : IntKind.i64.wrap (vl 8 q) = vl 8 q - 18446744073709551616 := by
   generalize vl 8 q = x at *
   simp only [IntKind.wrap, IntKind.signed, IntKind.bits]
   simp
   omega
  unfold vi at h
  omega
def b9c {α : Type} (p : Q → α × Q) (f : α → List UInt8) (ok : α → Prop) : Prop := ∀ q, (p q).2.2 = false → ok (p q).1 → q.2 = false ∧ q.1 = f (p q).1 ++ (p q).2.1
theorem a1z {α : Type} {p : Q → α × Q} {f : α → List UInt8} {ok : α → Prop} (hp : b9c p f ok) : ∀ n q, (H1 p n q).2.2 = false → (∀ x ∈ (H1 p n q).1, ok x) → q.2 = false ∧ q.1 = (H1 p n q).1.flatMap f ++ (H1 p n q).2.1
 | 0, q, h, _ => ⟨h, by simp [H1]⟩
 | n + 1, q, h, hok => by
  have hs : H1 p (n + 1) q = ((H1 p n q).1 ++ [(p (H1 p n q).2).1], (p (H1 p n q).2).2) := rfl
  rw [hs] at h hok ⊢
  obtain ⟨h1, h2⟩ := hp _ h (hok _ (by simp))
  obtain ⟨h3, h4⟩ := a1z hp n q h1 fun x hx => hok x (by simp [hx])
  refine ⟨h3, ?_⟩
  rw [h4, h2]
  simp
theorem b5k (k : Int) : b9c a9K b8D (F7 k) := by
 intro q h hok
 obtain ⟨h1, _, e1⟩ := C3 h
 obtain ⟨h2, _, e2⟩ := C3 h1
 obtain ⟨h3, _, e3⟩ := C3 h2
 obtain ⟨h4, _, e4⟩ := C3 h3
 refine ⟨h4, ?_⟩
 have hv : vi (stp 1 (stp 2 q)) = vl 8 (stp 1 (stp 2 q)) := a8l hok.1.2.1.1
 show q.1 = (le 2 (vl 2 q) ++ (le 1 (vl 1 (stp 2 q)) ++ (le 8 (vi (stp 1 (stp 2 q))) ++ le 1 (vl 1 (stp 8 (stp 1 (stp 2 q))))))) ++ (stp 1 (stp 8 (stp 1 (stp 2 q)))).1
 rw [hv]
 conv => lhs; rw [e4, e3, e2, e1]
 simp only [l_q]
theorem b6U : b9c c0z supB a2Q := by
 intro q h hok
 obtain ⟨h1, _, e1⟩ := C3 h
 obtain ⟨h2, _, e2⟩ := C3 h1
 obtain ⟨h3, _, e3⟩ := C3 h2
 refine ⟨h3, ?_⟩
 have hv : vi (stp 2 q) = vl 8 (stp 2 q) := a8l hok.2.1.1
 show q.1 = (le 2 (vl 2 q) ++ (le 8 (vi (stp 2 q)) ++ le 1 (vl 1 (stp 8 (stp 2 q))))) ++ (stp 1 (stp 8 (stp 2 q))).1
 rw [hv]
 conv => lhs; rw [e3, e2, e1]
 simp only [l_q]
def b6p (x : POd) : List UInt8 := le 4 x.1 ++ (le 8 x.2.1 ++ (le 8 x.2.2.1 ++ (le 8 x.2.2.2.1 ++ (le 1 x.2.2.2.2.length ++ x.2.2.2.2.flatMap b8D))))
theorem b5x (o : Odr) : b6p o.pu = b9W o := rfl
def okP (k : Int) (x : POd) : Prop := (0 ≤ x.1 ∧ x.1 ≤ 100000) ∧ (x.2.2.2.2.length ≤ 8) ∧ y9 x.2.1 ∧ y9 x.2.2.1 ∧ y9 x.2.2.2.1 ∧ ∀ l ∈ x.2.2.2.2, F7 k l
theorem c0t {k : Int} {o : Odr} (h : A4 k o) : okP k o.pu := ⟨h.1.1, h.1.2.1.2, h.1.2.2.1, h.1.2.2.2.1, h.1.2.2.2.2, h.2.1⟩
theorem b5Y (k : Int) : b9c b9M b6p (okP k) := by
 intro q h hok
 obtain ⟨_, _, ⟨p1, _⟩, ⟨p2, _⟩, ⟨p3, _⟩, hl⟩ := hok
 obtain ⟨h0, e0⟩ := a1z (b5k k) _ _ h hl
 obtain ⟨h1, _, e1⟩ := C3 h0
 obtain ⟨h2, _, e2⟩ := C3 h1
 obtain ⟨h3, _, e3⟩ := C3 h2
 obtain ⟨h4, _, e4⟩ := C3 h3
 obtain ⟨h5, _, e5⟩ := C3 h4
 refine ⟨h5, ?_⟩
 have v1 : vi (stp 4 q) = vl 8 (stp 4 q) := a8l p1
 have v2 : vi (stp 8 (stp 4 q)) = vl 8 (stp 8 (stp 4 q)) := a8l p2
 have v3 : vi (stp 8 (stp 8 (stp 4 q))) = vl 8 (stp 8 (stp 8 (stp 4 q))) := a8l p3
 have hn := vl1 (stp 8 (stp 8 (stp 8 (stp 4 q))))
 have hln : (((H1 a9K (vl 1 (stp 8 (stp 8 (stp 8 (stp 4 q))))).toNat (stp 1 (stp 8 (stp 8 (stp 8 (stp 4 q)))))).1.length : Nat) : Int) = vl 1 (stp 8 (stp 8 (stp 8 (stp 4 q)))) := by rw [a1D]; omega
 show q.1 = (le 4 (vl 4 q) ++ (le 8 (vi (stp 4 q)) ++ (le 8 (vi (stp 8 (stp 4 q))) ++ (le 8 (vi (stp 8 (stp 8 (stp 4 q)))) ++ (le 1 ((H1 a9K (vl 1 (stp 8 (stp 8 (stp 8 (stp 4 q))))).toNat (stp 1 (stp 8 (stp 8 (stp 8 (stp 4 q)))))).1.length : Nat) ++ (H1 a9K (vl 1 (stp 8 (stp 8 (stp 8 (stp 4 q))))).toNat (stp 1 (stp 8 (stp 8 (stp 8 (stp 4 q)))))).1.flatMap b8D))))) ++ (H1 a9K (vl 1 (stp 8 (stp 8 (stp 8 (stp 4 q))))).toNat (stp 1 (stp 8 (stp 8 (stp 8 (stp 4 q)))))).2.1
 rw [hln, v1, v2, v3]
 conv => lhs; rw [e5, e4, e3, e2, e1, e0]
 simp only [l_q]
theorem b8y (os : List Odr) : (os.map Odr.pu).flatMap b6p = os.flatMap b9W := by
 induction os with
 | nil => rfl
 | cons o os ih => rw [G0, T0, T0, ih, b5x]
theorem b9f.bytes {b : List UInt8} {C : Cfg} (h : b9f b C) : encC C = b := by
 obtain ⟨hok, h1, h2, h3, h4⟩ := h
 obtain ⟨k0, k1, k2, k3, k4, k5⟩ := hok
 have g1 := a1z b6U _ (stp 1 (a5W b).2) (show (b7D b).2.2 = false by rw [h4]) (fun x hx => k4.1 x (by rw [h3]; exact hx))
 obtain ⟨g2, g3⟩ := g1
 obtain ⟨g4, _, g5⟩ := C3 g2
 have g6 := a1z (b5Y C.ps.length) _ (stp 1 (K8 (b, false)).2) g4 (fun x hx => by
  have hx : x ∈ (a5W b).1 := hx
  rw [← h2] at hx
  obtain ⟨o, ho, rfl⟩ := List.mem_map.1 hx
  exact c0t (k3 o ho))
 obtain ⟨g7, g8⟩ := g6
 obtain ⟨g9, _, g10⟩ := C3 g7
 have hO : H1 b9M (vl 1 (K8 (b, false)).2).toNat (stp 1 (K8 (b, false)).2) = a5W b := rfl
 have hS : H1 c0z (vl 1 (a5W b).2).toNat (stp 1 (a5W b).2) = b7D b := rfl
 rw [hS, h4, ← h3, C4] at g3
 rw [hO, ← h2, b8y] at g8
 have n1 : vl 1 (K8 (b, false)).2 = (C.os.length : Int) := by
  have := congrArg List.length h2
  rw [← hO, a1D, l_z] at this
  have := vl1 (K8 (b, false)).2
  omega
 have n2 : vl 1 (a5W b).2 = (C.ss.length : Int) := by
  have := congrArg List.length h3
  rw [← hS, a1D] at this
  have := vl1 (a5W b).2
  omega
 rw [n1] at g10
 rw [n2] at g5
 have hb : b = le 2 (K8 (b, false)).1.length ++ ((K8 (b, false)).1 ++ (K8 (b, false)).2.1) := by
  have hv := vl2 (b, false)
  by_cases hc : (stp 2 (b, false)).2 = true ∨ (stp 2 (b, false)).1.length < (vl 2 (b, false)).toNat
  ·have : K8 (b, false) = ([], ([], true)) := by unfold K8; rw [if_pos hc]
   rw [this] at g9
   cases g9
  ·have hR : K8 (b, false) = ((stp 2 (b, false)).1.take (vl 2 (b, false)).toNat, ((stp 2 (b, false)).1.drop (vl 2 (b, false)).toNat, false)) := by unfold K8; rw [if_neg hc]
   have hbf : (stp 2 (b, false)).2 = false := by cases h : (stp 2 (b, false)).2 with
    | false => rfl
    | true => exact (hc (.inl h)).elim
   obtain ⟨_, _, e⟩ := C3 hbf
   have hln : ((stp 2 (b, false)).1.take (vl 2 (b, false)).toNat).length = (vl 2 (b, false)).toNat := by rw [u6]; omega
   rw [hR]
   simp only [hln, C6]
   rw [Int.toNat_of_nonneg hv.1]
   exact e
 rw [encC, h1]
 conv => rhs; rw [hb, g10, g8, g5, g3]
 simp only [l_q]
end
section
set_option maxHeartbeats 8000000
section
variable {h0 h : c9} {l : List HP}
theorem b2o {A : Option Addr} {n c : Nat} {xs : List Odr} (S : St h0 h l) (ha : Arr Odr.enc 5 h A xs) (hn : n = xs.length) (hl : xs.length < 1000000000) :
  d8 Tryz.prog 43 [.slice A n c] h fun v h' => St h0 h' (f9 Odr.enc 5 90 v xs :: l) :=
 (N4 (T := 90) (sz := 5) (bytes := 56) i43.2 Odr.enc_len (by omega) Odr.enc_plain rfl ha hn (Z9 ha) (by omega) (by omega)).mono fun v h' ⟨ho, hf, _⟩ => S.ownNew hf ho
theorem b3I {A : Option Addr} {n c : Nat} {xs : List Lin} (S : St h0 h l) (ha : Arr Lin.enc 4 h A xs) (hn : n = xs.length) (hl : xs.length < 1000000000) :
  d8 Tryz.prog 44 [.slice A n c] h fun v h' => St h0 h' (f9 Lin.enc 4 93 v xs :: l) :=
 (N4 (T := 93) (sz := 4) (bytes := 32) i44.2 Lin.enc_len (by omega) Lin.enc_plain rfl ha hn (Z9 ha) (by omega) (by omega)).mono fun v h' ⟨ho, hf, _⟩ => S.ownNew hf ho
theorem b3y {A : Option Addr} {n c : Nat} {xs : List Sup} (S : St h0 h l) (ha : Arr Sup.enc 3 h A xs) (hn : n = xs.length) (hl : xs.length < 1000000000) :
  d8 Tryz.prog 45 [.slice A n c] h fun v h' => St h0 h' (f9 Sup.enc 3 95 v xs :: l) :=
 (N4 (T := 95) (sz := 3) (bytes := 24) i45.2 Sup.enc_len (by omega) Sup.enc_plain rfl ha hn (Z9 ha) (by omega) (by omega)).mono fun v h' ⟨ho, hf, _⟩ => S.ownNew hf ho
theorem b2s {A : Option Addr} {n c : Nat} {xs : List Pol} (S : St h0 h l) (ha : Arr Pol.enc 16 h A xs) (hn : n = xs.length) (hl : xs.length < 100000) :
  d8 Tryz.prog 46 [.slice A n c] h fun v h' => St h0 h' (f9 Pol.enc 16 105 v xs :: l) :=
 (N4 (T := 105) (sz := 16) i46.2 Pol.enc_len (by omega) Pol.enc_plain rfl ha hn (Z9 ha) (by omega) (by omega)).mono fun v h' ⟨ho, hf, _⟩ => S.ownNew hf ho
theorem b2g (C : Cfg) (r : ∀ h', St h0 h' l → C.rd h') (l1 : C.os.length < 100000) (l2 : C.ss.length < 100000) (l3 : C.ps.length < 100000) (l4 : ∀ o ∈ C.os, o.ls.length < 100000) (S : St h0 h l) :
  d8 Tryz.prog 28 [.agg C.enc.toArray] h fun v h' => ∃ D : Cfg, v = .agg D.enc.toArray ∧ D.wf ∧ D.pu = C.pu ∧ St h0 h' (f9 Odr.enc 5 90 (.slice D.A1 D.os.length D.c1) D.os :: f9 Sup.enc 3 95 (.slice D.A2 D.ss.length D.c2) D.ss :: f9 Pol.enc 16 105 (.slice D.A3 D.ps.length D.c3) D.ps :: (D.os.map a9s ++ l)) := by
 refine EN i28.eq_1 fun K hK => Wa ?_
 (revert S; (try clear F); refine AL fun g h S F => ?_)
 refine Wa ?_
 (revert S; (try clear F); refine AL fun p h S F => ?_)
 refine Wc F @Cfg.enc.eq_1 ?_
 refine cI (b2o S (r _ S.tl.tl).os rfl (by omega)) ?_
 clear S F
 intro v h S
 obtain ⟨A1, c1, rfl⟩ := S.sl
 refine Wa ?_
 refine tS S.p2 rfl rfl (l_a rfl) ?_
 clear S
 intro h S
 rw [Cfg.enc] at S
 replace S := S.nm
 ((try clear F); have F := S.fx)
 refine Wb F ?_
 refine lI (fun ρ h' => ρ 1 = .pointer (some ⟨g, 0, none⟩) ∧ ρ 2 = .pointer (some ⟨p, 0, none⟩) ∧ ρ 10 = .int .i64 C.os.length ∧ ∃ (i : Nat) (ys : List Odr), ρ 11 = .int .i64 i ∧ i ≤ C.os.length ∧ ys.length = i ∧ ys.map Odr.pu = (C.os.take i).map Odr.pu ∧
  St h0 h' (f8 g [.slice A1 C.os.length c1, .slice C.A2 C.ss.length C.c2, .slice C.A3 C.ps.length C.c3] 26 :: f9 Odr.enc 5 90 (.slice A1 C.os.length c1) (ys ++ C.os.drop i) :: f8 p [.slice none 0 0, .slice none 0 0, .slice none 0 0] 26 :: (ys.map a9s ++ l))) (fun ρ _ => C.os.length - (iv (ρ 11)).toNat) ?_ ?_
 ·refine Wa ?_
  exact ⟨0, [], rfl, by omega, rfl, rfl, S⟩
 clear S F
 rintro ρ h J hJ ⟨e1, e2, e10, i, ys, e11, hi, hyl, hyp, S⟩
 refine Wc e10 e11 ?_
 refine cD (fun hlt => ?_) (fun hlt => ?_)
 ·have hil : i < C.os.length := by omega
  have hmem := l_v hil
  obtain ⟨b, rfl⟩ := S.p1.ownAt (by rw [l_m, H8]; omega)
  have hwl : i < (ys ++ C.os.drop i).length := by rw [l_m, H8]; omega
  have hget : (ys ++ C.os.drop i)[i]'hwl = C.os[i] := by
   rw [List.getElem_append_right (by omega)]
   simp [hyl]
  have hel := E6 Odr.enc_len S.p1 (i := i) (j := 1) hwl (by omega)
  rw [hget] at hel
  have hg0 := l9 (off := 0) S
  simp only [l_o] at hg0
  have hrl := (r _ S.tl.tl.tl.dropL).ls _ hmem
  have hl4 := l4 _ hmem
  have hset : ∀ y : Odr, (ys ++ C.os.drop i).set i y = (ys ++ [y]) ++ C.os.drop (i + 1) := fun y => by
   rw [a4o _ _ (by omega), hyl, Nat.sub_self, U6 hil, l_h, l_q]
   rfl
  have htk : (C.os.take (i + 1)).map Odr.pu = (C.os.take i).map Odr.pu ++ [C.os[i].pu] := by rw [l_t hil, N5]; rfl
  generalize C.os[i] = o at *
  simp only [Odr.enc, l_p, l_o] at hel
  have hI : (fun h' => rd1 h' (.pointer (some ⟨g, 0, none⟩)) = some (.slice (some ⟨b, 0, none⟩) C.os.length c1) ∧ rd1 h' (.pointer (some ⟨b, i * 5 + 1, none⟩)) = some (.slice o.A o.ls.length o.c)) h := ⟨hg0, hel⟩
  have rx : ∀ K t, n6 (fun h' => rd1 h' (.pointer (some ⟨g, 0, none⟩)) = some (.slice (some ⟨b, 0, none⟩) C.os.length c1) ∧ rd1 h' (.pointer (some ⟨b, i * 5 + 1, none⟩)) = some (.slice o.A o.ls.length o.c)) (fun h' => rd1 h' (.pointer (some ⟨g, 0, none⟩))) K t = K (.slice (some ⟨b, 0, none⟩) C.os.length c1) := fun K t => rI (fun h' hh => hh.1) h hI
  have ry : ∀ K t, n6 (fun h' => rd1 h' (.pointer (some ⟨g, 0, none⟩)) = some (.slice (some ⟨b, 0, none⟩) C.os.length c1) ∧ rd1 h' (.pointer (some ⟨b, i * 5 + 1, none⟩)) = some (.slice o.A o.ls.length o.c)) (fun h' => rd1 h' (.pointer (some ⟨b, i * 5 + 1, none⟩))) K t = K (.slice o.A o.ls.length o.c) := fun K t => rI (fun h' hh => hh.2) h hI
  refine Wa ?_
  refine dI (fun h' => rd1 h' (.pointer (some ⟨g, 0, none⟩)) = some (.slice (some ⟨b, 0, none⟩) C.os.length c1) ∧ rd1 h' (.pointer (some ⟨b, i * 5 + 1, none⟩)) = some (.slice o.A o.ls.length o.c)) hI ?_
  refine We e1 e11 rx ry ?_
  refine cI (b3I S hrl rfl (by omega)) ?_
  clear S rx ry hI hel hg0 hrl
  intro v h S
  obtain ⟨A', c', rfl⟩ := S.sl
  have hel := E6 Odr.enc_len S.p2 (i := i) (j := 1) hwl (by omega)
  rw [hget] at hel
  simp only [Odr.enc, l_p, l_o] at hel
  refine ⟨⟨l9 (off := 0) S.p1, hel⟩, ?_⟩
  refine Wa ?_
  refine D9 Odr.enc_len (i := i) (j := 1) (x := { o with A := A', c := c' }) S.p2 hwl (by omega) (l_a rfl) rfl rfl (by rw [hget]; rfl) ?_
  clear S hel
  intro h S
  rw [hset] at S
  refine Wb e11 ?_
  refine hJ _ _ ?_ ?_
  ·refine Wd e1 e2 e10 ?_
   refine ⟨i + 1, ys ++ [{ o with A := A', c := c' }], rfl, by omega, by rw [l_m, hyl]; rfl, by rw [htk, N5, hyp]; rfl, ?_⟩
   rw [N5, l_q (ys.map a9s)]
   have S : St h0 h (_ :: _ :: _ :: a9s { o with A := A', c := c' } :: (ys.map a9s ++ l)) := S.p2.p2.p3.p3.p3
   exact S.perm (.cons _ (.cons _ (.cons _ List.perm_middle.symm)))
  ·refine Wb e11 ?_
   omega
 obtain rfl : i = C.os.length := by omega
 rw [E8] at hyp
 rw [List.drop_length, C4] at S
 clear hJ
 have hg1 := l9 (off := 1) S
 have hg2 := l9 (off := 2) S
 simp only [l_p, l_o] at hg1 hg2
 have hrr := r _ S.tl.tl.tl.dropL
 have hI : (fun h' => rd1 h' (.pointer (some ⟨g, 1, none⟩)) = some (.slice C.A2 C.ss.length C.c2) ∧ rd1 h' (.pointer (some ⟨g, 2, none⟩)) = some (.slice C.A3 C.ps.length C.c3)) h := ⟨hg1, hg2⟩
 have rx : ∀ K t, n6 (fun h' => rd1 h' (.pointer (some ⟨g, 1, none⟩)) = some (.slice C.A2 C.ss.length C.c2) ∧ rd1 h' (.pointer (some ⟨g, 2, none⟩)) = some (.slice C.A3 C.ps.length C.c3)) (fun h' => rd1 h' (.pointer (some ⟨g, 1, none⟩))) K t = K (.slice C.A2 C.ss.length C.c2) := fun K t => rI (fun h' hh => hh.1) h hI
 have ry : ∀ K t, n6 (fun h' => rd1 h' (.pointer (some ⟨g, 1, none⟩)) = some (.slice C.A2 C.ss.length C.c2) ∧ rd1 h' (.pointer (some ⟨g, 2, none⟩)) = some (.slice C.A3 C.ps.length C.c3)) (fun h' => rd1 h' (.pointer (some ⟨g, 2, none⟩))) K t = K (.slice C.A3 C.ps.length C.c3) := fun K t => rI (fun h' hh => hh.2) h hI
 refine Wa ?_
 refine dI (fun h' => rd1 h' (.pointer (some ⟨g, 1, none⟩)) = some (.slice C.A2 C.ss.length C.c2) ∧ rd1 h' (.pointer (some ⟨g, 2, none⟩)) = some (.slice C.A3 C.ps.length C.c3)) hI ?_
 refine Wd e1 rx ry ?_
 refine cI (b3y S hrr.ss rfl (by omega)) ?_
 clear S rx ry hI hg1 hg2 hrr
 intro v h S
 obtain ⟨A2, c2, rfl⟩ := S.sl
 refine ⟨⟨l9 (off := 1) S.p1, l9 (off := 2) S.p1⟩, ?_⟩
 have hrr := r _ S.tl.tl.tl.tl.dropL
 refine Wb e1 ?_
 refine cI (b2s S hrr.ps rfl (by omega)) ?_
 clear S hrr
 intro v h S
 obtain ⟨A3, c3, rfl⟩ := S.sl
 refine Wa ?_
 refine tS S.p2 rfl rfl (l_a rfl) ?_
 clear S
 intro h S
 replace S := S.nm
 refine Wb e1 ?_
 refine tS S rfl rfl (l_a rfl) ?_
 clear S
 intro h S
 replace S := S.nm
 ((try clear F); have F := S.fx)
 refine Wd e1 F e2 ?_
 refine tS S.p4 rfl rfl (l_a rfl) ?_
 clear S F
 intro h S
 replace S := S.nm
 ((try clear F); have F := S.fx)
 refine Wc e2 F ?_
 obtain ⟨D, hD⟩ : ∃ D : Cfg, D = ⟨A1, c1, ys, A2, c2, C.ss, A3, c3, C.ps⟩ := ⟨_, rfl⟩
 refine hK _ _ ⟨D, ?_, ?_, ?_, ?_⟩
 ·rw [hD, Cfg.enc, hyl]
 ·have S := S.tl.tl
  have R := a8P (L := [_, _, _]) S
  obtain ⟨_, x1, x2⟩ := S.cap
  obtain ⟨_, y1, y2⟩ := S.p1.cap
  obtain ⟨_, z1, z2⟩ := S.p2.cap
  subst hD
  exact ⟨by simp only [hyl]; exact z1, z2, y1, y2, x1, x2, fun o ho => (R o ho).2⟩
 ·rw [hD]
  simp only [Cfg.pu, hyp]
 ·rw [hD]
  simp only [hyl]
  exact S.tl.tl.p1.p2
end
end
section
def O4 {α : Type} (enc : α → List Value) (sz T : Nat) (h : c9) (v : Value) (xs : List α) : Prop :=
 (v = .slice none 0 0 ∧ xs = []) ∨
 ∃ b cap pre cs post, v = .slice (some ⟨b, pre.length, none⟩) xs.length cap ∧ xs.length ≤ cap ∧ cap < 9223372036854775808 ∧ blk h b = some (pre ++ ((xs.flatMap enc ++ cs) ++ post), T, (0, 0)) ∧ (xs.flatMap enc ++ cs).length = cap * sz
section
variable {α : Type} {enc : α → List Value} {sz T : Nat} {h h' : c9} {v : Value} {xs : List α}
theorem Own.toO {base : Nat} (ho : Own enc sz T base h v xs) : O4 enc sz T h v xs := by
 rcases ho with ho | ⟨b, cap, cs, hv, _, h1, h2, h3, h4⟩
 ·exact .inl ho
 ·exact .inr ⟨b, cap, [], cs, [], hv, h1, h2, by simpa using h3, h4⟩
theorem O4.lt (ho : O4 enc sz T h v xs) : ∀ b ∈ i0 v, b < h.size := by
 rcases ho with ⟨rfl, _⟩ | ⟨b, cap, pre, cs, post, rfl, _, _, hb, _⟩
 ·intro b hb; cases hb
 ·intro b' hb'
  simp only [i0, Q9] at hb'
  subst hb'
  exact B6 hb
theorem O4.keep (ho : O4 enc sz T h v xs) (hk : ∀ b ∈ i0 v, blk h' b = blk h b) : O4 enc sz T h' v xs := by
 rcases ho with ho | ⟨b, cap, pre, cs, post, rfl, h1, h2, hb, h4⟩
 ·exact .inl ho
 ·exact .inr ⟨b, cap, pre, cs, post, rfl, h1, h2, by rw [hk b (by simp [i0])]; exact hb, h4⟩
theorem O4.slice (ho : O4 enc sz T h v xs) : ∃ A c, v = .slice A xs.length c := by
 rcases ho with ⟨rfl, rfl⟩ | ⟨b, cap, pre, cs, post, rfl, _⟩
 ·exact ⟨_, _, rfl⟩
 ·exact ⟨_, _, rfl⟩
theorem O4.arr (hsz : ∀ x, (enc x).length = sz) {A : Option Addr} {n c : Nat} (ho : O4 enc sz T h (.slice A n c) xs) : Arr enc sz h A xs ∧ n = xs.length ∧ n ≤ c ∧ c < 9223372036854775808 := by
 rcases ho with ⟨hv, rfl⟩ | ⟨b, cap, pre, cs, post, hv, h1, h2, hb, h4⟩
 ·injection hv with e1 e2 e3
  subst e1 e2 e3
  exact ⟨fun i hi => by simp at hi, rfl, v8 _, by decide⟩
 ·injection hv with e1 e2 e3
  subst e1 e2 e3
  refine ⟨fun i hi => ⟨b, pre.length, rfl, ?_⟩, rfl, h1, h2⟩
  have hfl := fL hsz xs
  have hm : i * sz + sz ≤ xs.length * sz := by
   have := Z0 sz (show i + 1 ≤ xs.length from hi)
   rwa [Nat.succ_mul] at this
  rw [F4 hb (by simp only [l_m]; omega)]
  congr 1
  rw [l_q (xs.flatMap enc) cs post, List.drop_append, List.drop_of_length_le (by omega), l_k, Nat.add_sub_cancel_left]
  exact a2D hsz xs (cs ++ post) i hi
def a4m (enc : α → List Value) (sz T : Nat) (v : Value) (xs : List α) : HP where
 P h B := B = i0 v ∧ O4 enc sz T h v xs
 loc := fun ⟨e, ho⟩ hk => ⟨e, ho.keep fun b hb => by simp only [blk, hk b (e ▸ hb)]⟩
 lt := fun ⟨e, ho⟩ b hm => ho.lt b (e ▸ hm)
variable {h0 : c9} {l : List HP} {v' : Value} {xs' : List α}
theorem St.off (S : St h0 h (a4m enc sz T v xs :: l)) : O4 enc sz T h v xs := by
 obtain ⟨B, hp, _⟩ := S.hd
 exact hp.2
theorem St.offSl (S : St h0 h (a4m enc sz T v xs :: l)) : ∃ A c, v = .slice A xs.length c := S.off.slice
theorem St.offArr {A : Option Addr} {n c : Nat} (S : St h0 h (a4m enc sz T (.slice A n c) xs :: l)) (hsz : ∀ x, (enc x).length = sz) : Arr enc sz h A xs := (S.off.arr hsz).1
theorem St.offUp (S : St h0 h (a4m enc sz T v xs :: l)) (hf : Fr h h' (i0 v)) (ho : O4 enc sz T h' v' xs') (hb : ∀ b ∈ i0 v', b ∈ i0 v ∨ h.size ≤ b) : St h0 h' (a4m enc sz T v' xs' :: l) := by
 obtain ⟨B, hp, _, hk⟩ := S.hd
 obtain ⟨rfl, _⟩ := hp
 exact hk _ _ _ hf ⟨rfl, ho⟩ hb
theorem St.toOff (S : St h0 h (f9 enc sz T v xs :: l)) : St h0 h (a4m enc sz T v xs :: l) := by
 obtain ⟨B, hp, _, hk⟩ := S.hd
 obtain ⟨rfl, ho⟩ := hp
 exact hk h _ (i0 v) (Fr.refl _ _) ⟨rfl, ho.toO⟩ (fun b hb => .inl hb)
theorem St.nilO (S : St h0 h l) : St h0 h (a4m enc sz T (.slice none 0 0) [] :: l) := S.nilS.toOff
theorem U2 (pre X post vs : List Value) {off k : Nat} (ho : off = pre.length + k) (hk : k + vs.length ≤ X.length) : t7 (pre ++ (X ++ post)) off vs = pre ++ (t7 X k vs ++ post) := by
 have e1 : pre ++ (X ++ post) = (pre ++ X.take k) ++ (X.drop k ++ post) := by
  conv => lhs; rw [← C6 k X]
  simp only [l_q]
 have hl : (X.take k).length = k := by rw [u6]; omega
 have e2 : t7 X k vs = X.take k ++ vs ++ (X.drop k).drop vs.length := by
  conv => lhs; rw [← C6 k X]
  exact s7 _ _ [] k hl.symm vs (by rw [H8]; omega)
 rw [e1, s7 _ _ [] off (by rw [l_m, hl]; exact ho) vs (by rw [l_m, H8]; omega), List.drop_append_of_le_length (by rw [H8]; omega), e2]
 simp only [l_q]
theorem a6l {b off : Nat} (ha : Arr enc sz h (some ⟨b, off, none⟩) xs) (n : Nat) : Arr enc sz h (some ⟨b, off + n * sz, none⟩) (xs.drop n) := by
 intro i hi
 rw [H8] at hi
 obtain ⟨b', off', e, hr⟩ := ha (n + i) (by omega)
 cases e
 refine ⟨b, _, rfl, ?_⟩
 rw [List.getElem_drop]
 rw [show off + n * sz + i * sz = off + (n + i) * sz by rw [M1]; omega]
 exact hr
theorem b3i {A : Option Addr} (ha : Arr enc sz h A xs) (n : Nat) : Arr enc sz h A (xs.take n) := by
 intro i hi
 obtain ⟨b, off, hA, hr⟩ := ha i (by simp at hi; omega)
 exact ⟨b, off, hA, by rw [hr, List.getElem_take]⟩
theorem O4.pop (hsz : ∀ x, (enc x).length = sz) {x : α} {A : Option Addr} {n c : Nat} (ho : O4 enc sz T h (.slice A n c) (x :: xs)) :
  ∃ A' c', a1T A sz 1 n c c = some (.slice A' xs.length c') ∧ O4 enc sz T h (.slice A' xs.length c') xs ∧ i0 (.slice A' xs.length c') = i0 (.slice A n c) := by
 rcases ho with ⟨_, hv⟩ | ⟨b, cap, pre, cs, post, hv, h1, h2, hb, h4⟩
 ·cases hv
 injection hv with e1 e2 e3
 subst e1 e2 e3
 simp only [l_f] at h1 ⊢
 unfold a1T
 rw [if_pos ⟨by omega, by omega, by omega, by omega⟩]
 have hl : (((xs.length + 1 : Nat) : Int) - 1).toNat = xs.length := by omega
 rw [T0, l_q, l_q, ← l_q pre] at hb
 rw [T0, l_q, l_m, hsz] at h4
 by_cases e : (c : Int) = 1
 ·rw [if_pos e, hl]
  obtain rfl : c = 1 := by omega
  have hx0 : xs = [] := a5Y (by omega)
  subst hx0
  refine ⟨_, 0, rfl, .inr ⟨b, 0, pre, [], enc x ++ (([] : List α).flatMap enc ++ (cs ++ post)), rfl, v8 _, by decide, ?_, by simp⟩, rfl⟩
  rw [hb]
  simp
 ·rw [if_neg e, hl, Option.map_some, K1, show ((1 : Int).toNat * sz) = sz by simp]
  refine ⟨_, c - 1, by rw [show ((c : Int) - 1).toNat = c - 1 by omega], .inr ⟨b, c - 1, pre ++ enc x, cs, post, ?_, by omega, by omega, ?_, ?_⟩, rfl⟩
  ·rw [l_m, hsz]
  ·rw [hb, l_q (xs.flatMap enc)]
  ·rw [Nat.sub_mul]
   omega
end
end
end Go.Proofs.YtcgbhcgfdcfmaaaGreat.MX
