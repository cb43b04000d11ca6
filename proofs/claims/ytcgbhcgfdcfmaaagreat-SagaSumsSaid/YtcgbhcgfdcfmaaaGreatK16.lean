import Derived.Test.YtcgbhcgfdcfmaaaGreatK11
import Derived.Test.YtcgbhcgfdcfmaaaGreatIR
import Derived.Test.YtcgbhcgfdcfmaaaGreatK15
import Derived.Test.YtcgbhcgfdcfmaaaGreatK10
namespace Go.Proofs.YtcgbhcgfdcfmaaaGreat.MX
open Go Go.Proofs
set_option linter.unusedSimpArgs false
set_option linter.unusedVariables false
def a1S (o : Nat) (bs : List UInt8) (bad : Bool) : HP := exA fun s => a0X [f8 o [s, .bool bad] 156, f9 a9F 1 5 s bs]
theorem D4 {h0 h : c9} {l : List HP} {o : Nat} {bs : List UInt8} {bad : Bool} : St h0 h (a1S o bs bad :: l) ↔ ∃ s, St h0 h (f8 o [s, .bool bad] 156 :: f9 a9F 1 5 s bs :: l) :=
 St.ex.trans (exists_congr fun _ => St.stars)
theorem b3K (v : Int) (n : Nat) {h0 h : c9} {l : List HP} {o : Nat} {bs : List UInt8} {bad : Bool} (S : St h0 h (a1S o bs bad :: l)) (hv : 0 ≤ v ∧ v < 18446744073709551616) (hn : n ≤ 8) (hl : bs.length < 1000000) :
  d8 Tryz.prog 154 [.pointer (some ⟨o, 0, none⟩), .int .u64 v, .int .i64 n] h fun r h' => St h0 h' (a1S o (bs ++ le n v) bad :: l) := by
 refine EN i154.eq_1 fun K hK => Wa ?_
 refine lI (fun ρ h' => ρ 0 = .pointer (some ⟨o, 0, none⟩) ∧ ρ 6 = .int .i64 n ∧ ∃ i : Nat, ρ 7 = .int .i64 i ∧ i ≤ n ∧ ρ 1 = .int .u64 (v / 256 ^ i) ∧ St h0 h' (a1S o (bs ++ le i v) bad :: l)) (fun ρ _ => n - (iv (ρ 7)).toNat) ?_ ?_
 ·refine Wa ?_
  refine ⟨0, rfl, Nat.zero_le _, ?_, ?_⟩
  ·simp
  ·simpa [le] using S
 ·clear S
  rintro ρ h J hJ ⟨e0, e6, i, e7, hi, e1, S⟩
  obtain ⟨s, S⟩ := D4.1 S
  obtain ⟨A, c, rfl⟩ := S.p1.sl
  ((try clear F); have F := S.fx)
  refine Wc e7 e6 ?_
  refine cD (fun hg => ?_) (fun hg => ?_)
  ·have hp : (0 : Int) < 256 ^ i := Int.pow_pos (by decide)
   have h1 : 0 ≤ v / 256 ^ i := Int.ediv_nonneg hv.1 (Int.le_of_lt hp)
   have h2 : v / 256 ^ i ≤ v := Int.ediv_le_self _ hv.1
   refine Wf e0 e1 e7 F @b5B ?_
   (revert S; (try clear F); refine AL fun b h S F => ?_)
   refine We e0 e1 e7 F ?_
   refine tA1 (bytes := 1) (x := B8 (v / 256 ^ i)) a5J (by omega) a4I rfl rfl (S.p2.p1) (by simp [a1N]; omega) (by simp [a1N]; omega) ?_
   clear S F
   intro v' h S
   obtain ⟨A', c', rfl⟩ := S.sl
   ((try clear F); have F := S.fx)
   refine We e0 e1 e7 F ?_
   (revert S; (try clear F); refine ST fun h S F => ?_)
   have e : v / 256 ^ i / 256 = v / 256 ^ (i + 1) := by rw [Int.pow_succ, Int.ediv_ediv_of_nonneg (Int.le_of_lt hp)]
   refine We e0 e1 e7 F ?_
   refine hJ _ _ ?_ ?_
   ·refine Wd e0 e6 e7 ?_
    refine ⟨i + 1, rfl, by omega, ?_, ?_⟩
    ·rw [← e, ← shr8]
    ·have S := D4.2 ⟨_, S⟩
     rwa [l_q, ← b1d] at S
   ·refine Wb e7 ?_
    omega
  ·refine Wa ?_
   obtain rfl : i = n := by omega
   exact hK _ _ (D4.2 ⟨_, S⟩)
def V3 (n : Nat) (v : Int) (bad : Bool) : Bool := bad || decide (¬ (0 ≤ v ∧ v < 256 ^ n))
def a1V (n : Nat) (v : Int) (bs : List UInt8) (bad : Bool) : List UInt8 := if V3 n v bad then bs else bs ++ le n v
theorem a5r (v : Int) (n : Nat) {h0 h : c9} {l : List HP} {o : Nat} {bs : List UInt8} {bad : Bool} (S : St h0 h (a1S o bs bad :: l)) (hv : I64 v) (hn : 1 ≤ n ∧ n ≤ 4) (hl : bs.length < 1000000) :
  d8 Tryz.prog 115 [.pointer (some ⟨o, 0, none⟩), .int .i64 v, .int .i64 n] h fun r h' => St h0 h' (a1S o (a1V n v bs bad) (V3 n v bad) :: l) := by
 obtain ⟨hv1, hv2⟩ := hv
 have hw : IntKind.i64.wrap (8 * n) = 8 * n := m9 (by omega) (by omega)
 have hs : v.fdiv (2 ^ (min (8 * (n : Int)).toNat 64)) = v / 256 ^ n := by
  rw [← b0O, show min (8 * (n : Int)).toNat 64 = 8 * n by omega]
 have h256 : (256 : Int) ^ n ≤ 256 ^ 4 := by
  obtain rfl | rfl | rfl | rfl : n = 1 ∨ n = 2 ∨ n = 3 ∨ n = 4 := by omega
  all_goals decide
 have hz := a5P n v
 refine EN i115.eq_1 fun K hK => Wa ?_
 obtain ⟨s, S⟩ := D4.1 S
 ((try clear F); have F := S.fx)
 by_cases hr : 0 ≤ v ∧ v < 256 ^ n
 ·have hq := hz.2 hr
  have hu : IntKind.u64.wrap v = v := a8j hr.1 (by omega)
  have hpb : V3 n v bad = bad := by simp [V3, hr]
  refine Wf hw hs hq F hu ?_
  cases bad
  ·refine Wc F hu ?_
   refine cI (b3K v n (D4.2 ⟨_, S⟩) (by omega) (by omega) hl) ?_
   intro r h' S
   refine Wa ?_
   refine hK _ _ ?_
   rw [a1V, hpb]
   exact S
  ·refine Wb F ?_
   refine hK _ _ ?_
   rw [a1V, hpb]
   exact D4.2 ⟨_, S⟩
 ·have hq : ¬ v / 256 ^ n = 0 := fun h => hr (hz.1 h)
  have hpb : V3 n v bad = true := by simp [V3, hr]
  by_cases h0' : v < 0
  ·refine Wf hw hs hq F h0' ?_
   (revert S; (try clear F); refine ST fun h S F => ?_)
   refine Wb F ?_
   refine hK _ _ ?_
   rw [a1V, hpb]
   exact D4.2 ⟨_, S⟩
  ·refine Wf hw hs hq F h0' ?_
   (revert S; (try clear F); refine ST fun h S F => ?_)
   refine Wb F ?_
   refine hK _ _ ?_
   rw [a1V, hpb]
   exact D4.2 ⟨_, S⟩
theorem c0M (v : Int) {h0 h : c9} {l : List HP} {o : Nat} {bs : List UInt8} {bad : Bool} (S : St h0 h (a1S o bs bad :: l)) (hv : I64 v) (hl : bs.length < 1000000) :
  d8 Tryz.prog 71 [.pointer (some ⟨o, 0, none⟩), .int .i64 v] h fun r h' => St h0 h' (a1S o (a1V 1 v bs bad) (V3 1 v bad) :: l) := by
 refine EN i71.eq_1 fun K hK => Wa ?_
 refine cI (a5r v 1 S hv (by omega) hl) fun r h' S => ?_
 refine Wa ?_
 exact hK _ _ S
theorem b9p (v : Int) {h0 h : c9} {l : List HP} {o : Nat} {bs : List UInt8} {bad : Bool} (S : St h0 h (a1S o bs bad :: l)) (hv : I64 v) (hl : bs.length < 1000000) :
  d8 Tryz.prog 72 [.pointer (some ⟨o, 0, none⟩), .int .i64 v] h fun r h' => St h0 h' (a1S o (a1V 2 v bs bad) (V3 2 v bad) :: l) := by
 refine EN i72.eq_1 fun K hK => Wa ?_
 refine cI (a5r v 2 S hv (by omega) hl) fun r h' S => ?_
 refine Wa ?_
 exact hK _ _ S
theorem b9S (v : Int) {h0 h : c9} {l : List HP} {o : Nat} {bs : List UInt8} {bad : Bool} (S : St h0 h (a1S o bs bad :: l)) (hv : I64 v) (hl : bs.length < 1000000) :
  d8 Tryz.prog 74 [.pointer (some ⟨o, 0, none⟩), .int .i64 v] h fun r h' => St h0 h' (a1S o (a1V 4 v bs bad) (V3 4 v bad) :: l) := by
 refine EN i74.eq_1 fun K hK => Wa ?_
 refine cI (a5r v 4 S hv (by omega) hl) fun r h' S => ?_
 refine Wa ?_
 exact hK _ _ S
theorem b3t {A : Option Addr} {n c : Nat} {xs : List UInt8} {h0 h : c9} {l : List HP} (S : St h0 h l) (ha : Arr a9F 1 h A xs) (hn : n = xs.length) (hA : A = none → xs = []) (hl : xs.length < 1000000000) :
  d8 Tryz.prog 116 [.slice A n c] h fun v h' => St h0 h' (f9 a9F 1 5 v xs :: l) ∧ Fr h h' [] :=
 (N4 (T := 5) (sz := 1) (bytes := 1) i116.2 a5J (by omega) a4I rfl ha hn hA (by omega) (by omega)).mono fun v h' ⟨ho, hf, _⟩ => ⟨S.ownNew hf ho, hf⟩
theorem b8d {enc : UInt8 → List Value} {sz T base : Nat} {h : c9} {A : Option Addr} {n c : Nat} {xs : List UInt8} (ho : Own enc sz T base h (.slice A n c) xs) : A = none → xs = [] := by
 rintro rfl
 rcases ho with ⟨hv, rfl⟩ | ⟨b, cap, cs, hv, _⟩
 ·rfl
 ·cases hv
theorem b9P {h0 h : c9} {l : List HP} {o : Nat} {bs : List UInt8} {bad : Bool} (S : St h0 h (a1S o bs bad :: l)) (hl : bs.length < 1000000) :
  d8 Tryz.prog 75 [.pointer (some ⟨o, 0, none⟩)] h fun r h' => ∃ v, r = .tuple #[v, .int .i64 (if bad then 2 else 0)] ∧ St h0 h' (f9 a9F 1 5 v (if bad then [] else bs) :: a1S o bs bad :: l) := by
 refine EN i75.eq_1 fun K hK => Wa ?_
 obtain ⟨s, S⟩ := D4.1 S
 obtain ⟨B, d, rfl⟩ := S.p1.sl
 ((try clear F); have F := S.fx)
 refine Wb F ?_
 cases bad
 ·refine Wb F ?_
  refine cI (b3t S (S.p1.arr a5J) rfl (b8d S.p1.own) (by omega)) ?_
  rintro v h ⟨S, _⟩
  refine Wa ?_
  refine hK _ _ ⟨v, rfl, ?_⟩
  exact (D4.2 ⟨_, S.p2.p2⟩).swap
 ·refine Wb F ?_
  exact hK _ _ ⟨_, rfl, (D4.2 ⟨_, S⟩).nilS⟩
structure Pol where
 w : Int
 fin : Bool
 exc : Bool
 cre : Bool
 f0 : Int
 f1 : Int
 f2 : Int
 f3 : Int
 s0 : Int
 t0 : Int
 s1 : Int
 t1 : Int
 s2 : Int
 t2 : Int
 s3 : Int
 t3 : Int
 deriving DecidableEq, Inhabited
def Pol.enc (p : Pol) : List Value := [.int .i64 p.w, .bool p.fin, .bool p.exc, .bool p.cre, .int .i64 p.f0, .int .i64 p.f1, .int .i64 p.f2, .int .i64 p.f3, .int .i64 p.s0, .int .i64 p.t0, .int .i64 p.s1, .int .i64 p.t1, .int .i64 p.s2, .int .i64 p.t2, .int .i64 p.s3, .int .i64 p.t3]
def Pol.zero : Pol := ⟨0, false, false, false, 0, 0, 0, 0, 0, 0, 0, 0, 0, 0, 0, 0⟩
theorem Pol.enc_len (p : Pol) : p.enc.length = 16 := rfl
theorem Pol.enc_plain (p : Pol) : pC p.enc = true := rfl
def M8 (n : Int) : Prop := 0 ≤ n ∧ n ≤ 10000
def T1 (s t : Int) : Prop := M8 s ∧ (t = 0 ∧ s = 0 ∨ 3 ≤ t ∧ t ≤ 5)
def Pol.right (p : Pol) : Prop := (M8 p.f0 ∧ M8 p.f1 ∧ M8 p.f2 ∧ M8 p.f3) ∧ (T1 p.s0 p.t0 ∧ T1 p.s1 p.t1 ∧ T1 p.s2 p.t2 ∧ T1 p.s3 p.t3) ∧ 0 ≤ p.w ∧ p.w ≤ 1000
theorem a3y {p : Prop} {X Y : Prop} {s : Tag X} {t : Tag Y} (hx : ¬ p → X) (hy : p → Y) : X4 (.bool (!dcd p)) X Y s t := by
 by_cases h : p
 ·rw [dT h]; simp only [X4, a0Q, Bool.not_true, Bool.false_eq_true, if_false]; exact hy h
 ·rw [dF h]; simp only [X4, a0Q, Bool.not_false, if_true]; exact hx h
theorem a6G (n : Int) (h : c9) : d8 Tryz.prog 149 [.int .i64 n] h fun v h' => v = .bool (dcd (M8 n)) ∧ h' = h := by
 by_cases hp : M8 n
 ·refine EN i149.eq_1 fun K hK => Wa ?_
  have := hp.1
  have := hp.2
  refine Wa ?_
  exact hK _ _ ⟨by rw [dT hp], rfl⟩
 ·by_cases h0 : 0 ≤ n
  ·have : ¬ n ≤ 10000 := fun h1 => hp ⟨h0, h1⟩
   refine EN i149.eq_1 fun K hK => ?_
   refine Wa ?_
   exact hK _ _ ⟨by rw [dF hp], rfl⟩
  ·refine EN i149.eq_1 fun K hK => ?_
   refine Wb h0 ?_
   exact hK _ _ ⟨by rw [dF hp], rfl⟩
theorem a2A (n : Int) (h : c9) : d8 Tryz.prog 101 [.int .i64 n] h fun v h' => v = .bool (dcd (M8 n)) ∧ h' = h := by
 by_cases hp : M8 n
 ·refine EN i101.eq_1 fun K hK => Wa ?_
  have := hp.1
  have := hp.2
  refine Wa ?_
  exact hK _ _ ⟨by rw [dT hp], rfl⟩
 ·by_cases h0 : 0 ≤ n
  ·have : ¬ n ≤ 10000 := fun h1 => hp ⟨h0, h1⟩
   refine EN i101.eq_1 fun K hK => ?_
   refine Wa ?_
   exact hK _ _ ⟨by rw [dF hp], rfl⟩
  ·refine EN i101.eq_1 fun K hK => ?_
   refine Wb h0 ?_
   exact hK _ _ ⟨by rw [dF hp], rfl⟩
theorem b6a (s t : Int) (h : c9) : d8 Tryz.prog 150 [.agg (List.toArray [.int .i64 s, .int .i64 t])] h fun v h' => v = .bool (dcd (T1 s t)) ∧ Fr h h' [] := by
 have S := St.nil h
 refine EN i150.eq_1 fun K hK => Wa ?_
 (revert S; (try clear F); refine AL fun b h S F => ?_)
 refine Wb F ?_
 refine cI (a6G s _) ?_
 rintro _ _ ⟨rfl, rfl⟩
 by_cases hs : M8 s
 ·by_cases h1 : t = 0
  ·by_cases h2 : s = 0
   ·refine Wb F ?_
    exact hK _ _ ⟨by rw [dT]; exact ⟨hs, .inl ⟨h1, h2⟩⟩, S.fr⟩
   ·refine Wb F ?_
    exact hK _ _ ⟨by rw [dF]; rintro ⟨_, h | h⟩ <;> omega, S.fr⟩
  ·by_cases h3 : 3 ≤ t
   ·by_cases h5 : t ≤ 5
    ·refine Wb F ?_
     exact hK _ _ ⟨by rw [dT ⟨hs, .inr ⟨h3, h5⟩⟩], S.fr⟩
    ·refine Wb F ?_
     exact hK _ _ ⟨by rw [dF]; rintro ⟨_, h | h⟩ <;> omega, S.fr⟩
   ·refine Wb F ?_
    exact hK _ _ ⟨by rw [dF]; rintro ⟨_, h | h⟩ <;> omega, S.fr⟩
 ·refine Wb F ?_
  exact hK _ _ ⟨by rw [dF]; exact fun h => hs h.1, S.fr⟩
set_option maxHeartbeats 4000000 in
theorem b6r (p : Pol) (h : c9) : d8 Tryz.prog 105 [.agg p.enc.toArray] h fun v h' => v = .bool (dcd p.right) ∧ Fr h h' [] := by
 have S := St.nil h
 refine EN i105.eq_1 fun K hK => Wa ?_
 (revert S; (try clear F); refine AL fun b h S F => ?_)
 refine Wc F @Pol.enc.eq_1 ?_
 refine x4 5 ?_
 refine Wa ?_
 iterate 4
  refine cI (a6G _ _) ?_
  rintro _ _ ⟨rfl, rfl⟩
  refine Wa ?_
  refine a3y (fun hn => by (refine Wa ?_); exact hK _ _ ⟨by rw [dF]; exact fun h => hn (by first | exact h.1.1 | exact h.1.2.1 | exact h.1.2.2.1 | exact h.1.2.2.2), S.fr⟩) (fun hp => ?_)
  refine Wa ?_
 refine Wc F @Pol.enc.eq_1 ?_
 refine x4 5 ?_
 refine Wa ?_
 iterate 4
  (revert S; (try clear F); refine AL fun g h S F => ?_)
  refine Wb F ?_
  (revert S; (try clear F); refine ST fun h S F => ?_)
  refine Wb F ?_
  refine cI (b6a _ _ _) ?_
  rintro _ h ⟨rfl, hf⟩
  have S := S.frame hf
  ((try clear F); have F := S.fx)
  refine Wa ?_
  refine a3y (fun hn => by (refine Wa ?_); exact hK _ _ ⟨by rw [dF]; exact fun h => hn (by first | exact h.2.1.1 | exact h.2.1.2.1 | exact h.2.1.2.2.1 | exact h.2.1.2.2.2), S.fr⟩) (fun hp => ?_)
  refine Wa ?_
 refine Wc F @Pol.enc.eq_1 ?_
 by_cases h0 : 0 ≤ p.w
 ·by_cases h1 : p.w ≤ 1000
  ·refine We F @Pol.enc.eq_1 h0 h1 ?_
   refine hK _ _ ⟨?_, S.fr⟩
   rw [dT]
   exact ⟨⟨by assumption, by assumption, by assumption, by assumption⟩, ⟨by assumption, by assumption, by assumption, by assumption⟩, h0, h1⟩
  ·refine We F @Pol.enc.eq_1 h0 h1 ?_
   exact hK _ _ ⟨by rw [dF]; exact fun h => h1 h.2.2.2, S.fr⟩
 ·refine Wd F @Pol.enc.eq_1 h0 ?_
  exact hK _ _ ⟨by rw [dF]; exact fun h => h0 h.2.2.1, S.fr⟩
theorem b5T {h : c9} : a4p Tryz.prog Pol.enc h [] (.func (.func 104) #[] (List.toArray [])) fun p => !dcd p.right := by
 refine ⟨_, _, rfl, a3N, fun x h hf => ?_⟩
 have S := St.nil h
 refine EN i104.eq_1 fun K hK => Wa ?_
 (revert S; (try clear F); refine AL fun b h S F => ?_)
 refine Wc F @Pol.enc.eq_1 ?_
 refine cI (b6r x _) ?_
 rintro _ h ⟨rfl, hf⟩
 refine Wa ?_
 exact hK _ _ ⟨rfl, (S.frame hf).fr⟩
def Y2 (l : List Pol) : Prop := l.length ≤ 16 ∧ ∀ p ∈ l, p.right
theorem a7z {h : c9} {A : Option Addr} {n c : Nat} {xs : List Pol} (ha : Arr Pol.enc 16 h A xs) (hn : n = xs.length) (hl : xs.length < 1000000) :
  d8 Tryz.prog 103 [.slice A n c, .func (.func 104) #[] (List.toArray [])] h fun v h' => v = .bool (dcd (∃ p ∈ xs, ¬ p.right)) ∧ Fr h h' [] := by
 subst hn
 refine EN i103.eq_1 fun K hK => Wa ?_
 refine cI (M2 (sz := 16) (p := fun m : Pol => !dcd m.right) i148.2 ha rfl (by omega) b5T) ?_
 rintro _ h1 ⟨rfl, hf⟩
 rcases L1 (fun m : Pol => !dcd m.right) xs 0 with ⟨hx, hall⟩ | ⟨i, hx, hil, hbef, hat⟩
 ·have hx : E9 (fun m : Pol => !dcd m.right) xs 0 = -1 := hx
  refine Wb hx ?_
  refine hK _ _ ⟨?_, hf⟩
  rw [dF]
  rintro ⟨p, hp, hn⟩
  have := hall p hp
  rw [dF hn] at this
  cases this
 ·have hx : E9 (fun m : Pol => !dcd m.right) xs 0 = (i : Int) := by simpa using hx
  refine Wb hx ?_
  refine hK _ _ ⟨?_, hf⟩
  have := hat xs[i] (l_r hil)
  rw [dT]
  refine ⟨xs[i], l_v hil, fun hr => ?_⟩
  rw [dT hr] at this
  cases this
theorem a8v {h : c9} {A : Option Addr} {n c : Nat} {xs : List Pol} (ha : Arr Pol.enc 16 h A xs) (hn : n = xs.length) (hl : xs.length < 1000000) :
  d8 Tryz.prog 64 [.slice A n c] h fun v h' => v = .bool (dcd (Y2 xs)) ∧ Fr h h' [] := by
 subst hn
 refine EN i64.eq_1 fun K hK => Wa ?_
 by_cases h16 : xs.length ≤ 16
 ·refine Wb h16 ?_
  refine cI (a7z ha rfl hl) ?_
  rintro _ h1 ⟨rfl, hf⟩
  refine Wa ?_
  refine hK _ _ ⟨?_, hf⟩
  by_cases hr : Y2 xs
  ·rw [dT hr, dF]
   ·rfl
   ·rintro ⟨p, hp, hn⟩; exact hn (hr.2 p hp)
  ·rw [dF hr, dT]
   ·rfl
   ·apply Classical.byContradiction
    intro hn
    exact hr ⟨h16, fun p hp => Classical.byContradiction fun h => hn ⟨p, hp, h⟩⟩
 ·refine Wb h16 ?_
  exact hK _ _ ⟨by rw [dF]; exact fun h => h16 h.1, Fr.refl _ _⟩
section
set_option maxHeartbeats 4000000
def isR (n : Int) : Prop := 0 ≤ n ∧ n < 4
def Pol.feeR (p : Pol) (r : Int) : Int := if r = 0 then p.f0 else if r = 1 then p.f1 else if r = 2 then p.f2 else p.f3
def Pol.gsh (p : Pol) (g : Int) : Int := if g = 0 then p.s0 else if g = 1 then p.s1 else if g = 2 then p.s2 else p.s3
def Pol.gto (p : Pol) (g : Int) : Int := if g = 0 then p.t0 else if g = 1 then p.t1 else if g = 2 then p.t2 else p.t3
def wrt (p : Pol) (sh r g : Int) : Int := sh * p.gsh g / 10000 - sh * p.gsh g / 10000 * p.feeR r / 10000
theorem b6y {n : Int} (h : isR n) : n = 0 ∨ n = 1 ∨ n = 2 ∨ n = 3 := by obtain ⟨h1, h2⟩ := h; omega
theorem a4r {p : Pol} (hp : p.right) (r : Int) : M8 (p.feeR r) := by
 obtain ⟨⟨h0, h1, h2, h3⟩, _⟩ := hp
 unfold Pol.feeR
 (repeat' split) <;> assumption
theorem a7K {p : Pol} (hp : p.right) (g : Int) : M8 (p.gsh g) := by
 obtain ⟨_, ⟨⟨h0, _⟩, ⟨h1, _⟩, ⟨h2, _⟩, ⟨h3, _⟩⟩, _⟩ := hp
 unfold Pol.gsh
 (repeat' split) <;> assumption
theorem a1M {a n : Int} (ha : 0 ≤ a) (hn : M8 n) : 0 ≤ a * n / 10000 ∧ a * n / 10000 ≤ a := by
 obtain ⟨h1, h2⟩ := hn
 have e1 : 0 ≤ a * n := Int.mul_nonneg ha h1
 have e2 : a * n ≤ a * 10000 := Int.mul_le_mul_of_nonneg_left h2 ha
 omega
theorem a9m {a n : Int} (ha : 0 ≤ a) (ha2 : a ≤ 1125899906842624) (hn : M8 n) : a5m a n 10000 = (a * n / 10000, 0) := by
 obtain ⟨h1, h2⟩ := hn
 rw [a5m, if_neg (by omega), if_neg (by omega)]
theorem a6A {p : Pol} {sh r g : Int} (hp : p.right) (h0 : 0 ≤ sh) : 0 ≤ wrt p sh r g ∧ wrt p sh r g ≤ sh := by
 have h1 := a1M h0 (a7K hp g)
 have h2 := a1M h1.1 (a4r hp r)
 unfold wrt
 omega
theorem a1E (p : Pol) (h : c9) : d8 Tryz.prog 133 [.agg p.enc.toArray] h fun v h' => v = .bool (dcd p.right) ∧ Fr h h' [] := by
 have S := St.nil h
 refine EN i133.eq_1 fun K hK => Wa ?_
 (revert S; (try clear F); refine AL fun b h S F => ?_)
 refine Wc F @Pol.enc.eq_1 ?_
 (revert S; (try clear F); refine AL fun g h S F => ?_)
 have S := S.cellOwn (enc := Pol.enc) (sz := 16) (ys := [p]) Pol.enc_len rfl (by simp)
 clear F
 refine Wa ?_
 refine cI (a8v (xs := [p]) (S.arr Pol.enc_len) rfl (by simp)) ?_
 rintro _ h' ⟨rfl, hf⟩
 refine Wa ?_
 refine hK _ _ ⟨?_, (S.frame hf).fr⟩
 by_cases hr : p.right
 ·rw [dT hr, dT ⟨by simp, by simpa using hr⟩]
 ·rw [dF hr, dF fun h => hr (h.2 p (by simp))]
theorem a7O (n : Int) (h : c9) : d8 Tryz.prog 134 [.int .i64 n] h fun v h' => v = .bool (dcd (isR n)) ∧ h' = h := by
 by_cases h1 : 0 ≤ n
 ·by_cases h2 : n < 4
  ·refine EN i134.eq_1 fun K hK => ?_
   refine Wc h1 h2 ?_
   exact hK _ _ ⟨by rw [dT ⟨h1, h2⟩], rfl⟩
  ·refine EN i134.eq_1 fun K hK => ?_
   refine Wc h1 h2 ?_
   exact hK _ _ ⟨by rw [dF fun h => h2 h.2], rfl⟩
 ·refine EN i134.eq_1 fun K hK => ?_
  refine Wb h1 ?_
  exact hK _ _ ⟨by rw [dF fun h => h1 h.1], rfl⟩
theorem b9D (p : Pol) (sum r : Int) (hp : p.right) (hr : isR r) (h0 : 0 ≤ sum) (h1 : sum ≤ 1125899906842624) (h : c9) : d8 Tryz.prog 136 [.agg p.enc.toArray, .int .i64 sum, .int .i64 r] h fun v h' => v = .tuple #[.int .i64 (sum * p.feeR r / 10000), .int .i64 0] ∧ Fr h h' [] := by
 have hf := a4r hp r
 have hv := a9m h0 h1 hf
 have S := St.nil h
 refine EN i136.eq_1 fun K hK => Wa ?_
 (revert S; (try clear F); refine AL fun b h S F => ?_)
 refine Wc F @Pol.enc.eq_1 ?_
 refine cI (a1E p _) ?_
 rintro _ h ⟨rfl, f1⟩
 have S := S.frame f1
 rw [dT hp]
 refine Wa ?_
 refine cI (a7O r _) ?_
 rintro _ _ ⟨rfl, rfl⟩
 rw [dT hr]
 ((try clear F); have F := S.fx)
 rcases b6y hr with rfl | rfl | rfl | rfl <;>
 ·refine Wc F @Pol.enc.eq_1 ?_
  refine cI (a6P _ _ ⟨by omega, by omega⟩ ⟨?_, ?_⟩ _) ?_
  ·have := hf.1; simp only [Pol.feeR] at this; simp at this; omega
  ·have := hf.2; simp only [Pol.feeR] at this; simp at this; omega
  rintro _ _ ⟨rfl, rfl⟩
  simp only [Pol.feeR] at hv ⊢
  simp at hv ⊢
  rw [hv]
  refine Wa ?_
  exact hK _ _ ⟨rfl, S.fr⟩
theorem b6t (p : Pol) (sh r g : Int) (hp : p.right) (hr : isR r) (hg : isR g) (h0 : 0 ≤ sh) (h1 : sh ≤ 1125899906842624) (h : c9) : d8 Tryz.prog 89 [.agg p.enc.toArray, .int .i64 sh, .int .i64 r, .int .i64 g] h fun v h' => v = .tuple #[.int .i64 (wrt p sh r g), .int .i64 0] ∧ Fr h h' [] := by
 have hf := a7K hp g
 have hv := a9m h0 h1 hf
 have hl := a1M h0 hf
 have hl2 := a1M hl.1 (a4r hp r)
 have S := St.nil h
 refine EN i89.eq_1 fun K hK => Wa ?_
 (revert S; (try clear F); refine AL fun b h S F => ?_)
 refine Wc F @Pol.enc.eq_1 ?_
 refine cI (a1E p _) ?_
 rintro _ h ⟨rfl, f1⟩
 have S := S.frame f1
 rw [dT hp]
 refine Wa ?_
 refine cI (a7O r _) ?_
 rintro _ _ ⟨rfl, rfl⟩
 rw [dT hr]
 refine Wa ?_
 refine cI (a7O g _) ?_
 rintro _ _ ⟨rfl, rfl⟩
 rw [dT hg]
 have hgo : ∀ (x : Int) (h : c9), x = p.gsh g → d8 Tryz.prog 135 [.int .i64 sh, .int .i64 x] h fun v h' => v = .tuple #[.int .i64 (sh * p.gsh g / 10000), .int .i64 0] ∧ h' = h := fun x h e => by
  subst e
  have := a6P sh (p.gsh g) ⟨by omega, by omega⟩ ⟨by have := hf.1; omega, by have := hf.2; omega⟩ h
  rwa [hv] at this
 ((try clear F); have F := S.fx)
 have fin : ∀ (x : Int), x = p.gsh g → a7Z Tryz.prog 135 [.int .i64 sh, .int .i64 x] h (fun v h' => True) ⟨⟩ ⟨⟩ → True := fun _ _ _ => trivial
 clear fin
 rcases b6y hg with rfl | rfl | rfl | rfl <;>
 ·refine Wc F @Pol.enc.eq_1 ?_
  refine cI (hgo _ _ (by simp [Pol.gsh])) ?_
  rintro _ _ ⟨rfl, rfl⟩
  refine Wc F @Pol.enc.eq_1 ?_
  refine cI (b9D p _ r hp hr hl.1 (by omega) _) ?_
  rintro _ h ⟨rfl, f2⟩
  refine Wa ?_
  exact hK _ _ ⟨rfl, (S.frame f2).fr⟩
end
section
set_option maxHeartbeats 8000000
theorem b3p (p : Pol) (sh r g : Int) (hp : p.right) (hr : isR r) (hg : isR g) (h0 : 0 ≤ sh) (h1 : sh ≤ 1125899906842624) (h : c9) : d8 Tryz.prog 39 [.agg p.enc.toArray, .int .i64 sh, .int .i64 r, .int .i64 g] h fun v h' => v = .int .i64 (wrt p sh r g) ∧ Fr h h' [] := by
 have hf := a7K hp g
 have hf2 := a4r hp r
 have hl := a1M h0 hf
 have hl2 := a1M hl.1 hf2
 have hgo : ∀ (a n x : Int) (h : c9), x = n → M8 n → 0 ≤ a → a ≤ 1125899906842624 → d8 Tryz.prog 63 [.int .i64 a, .int .i64 x, .int .i64 10000] h fun v h' => v = .tuple #[.int .i64 (a * n / 10000), .int .i64 0] ∧ h' = h := fun a n x h e hn ha hb => by
  subst e
  obtain ⟨h1, h2⟩ := hn
  obtain ⟨u, rfl⟩ := l_u ha
  obtain ⟨w, rfl⟩ := l_u h1
  have := b6F u w 10000 (by omega) (by omega) (by decide) (by decide) h
  rwa [Int.natCast_ediv, Int.natCast_mul] at this
 have S := St.nil h
 refine EN i39.eq_1 fun K hK => Wa ?_
 (revert S; (try clear F); refine AL fun b h S F => ?_)
 rcases b6y hg with rfl | rfl | rfl | rfl <;>
 ·refine Wc F @Pol.enc.eq_1 ?_
  refine cI (hgo sh (p.gsh _) _ _ (by simp [Pol.gsh]) hf h0 h1) ?_
  rintro _ _ ⟨rfl, rfl⟩
  rcases b6y hr with rfl | rfl | rfl | rfl <;>
  ·refine Wc F @Pol.enc.eq_1 ?_
   refine cI (hgo _ (p.feeR _) _ _ (by simp [Pol.feeR]) hf2 hl.1 (by omega)) ?_
   rintro _ _ ⟨rfl, rfl⟩
   refine Wa ?_
   exact hK _ _ ⟨rfl, S.fr⟩
theorem b6H (x : j0) (h : c9) : d8 Tryz.prog 163 [.agg x.enc.toArray] h fun v h' => v = .bool (dcd (a0M x.r.worth ∧ a0M x.r.paid ∧ a0M x.r.credd ∧ a0M x.r.given)) ∧ Fr h h' [] := by
 have S := St.nil h
 have z4 : ∀ z : Value, l5 [z] 4 = [z, z, z, z] := fun _ => rfl
 refine EN i163.eq_1 fun K hK => Wa ?_
 (revert S; (try clear F); refine AL fun b h S F => ?_)
 refine Wd F @j0.enc.eq_1 z4 ?_
 (revert S; (try clear F); refine AL fun g h S F => ?_)
 refine Wb F ?_
 by_cases a1 : x.r.worth < 0
 ·(refine x4 5 ?_); (refine Wc F a1 ?_); exact hK _ _ ⟨by rw [dF fun h => by have := h.1.1; omega], S.fr⟩
 by_cases a2 : 1125899906842624 < x.r.worth
 ·(refine x4 5 ?_); (refine Wd F a1 a2 ?_); exact hK _ _ ⟨by rw [dF fun h => by have := h.1.2; omega], S.fr⟩
 by_cases b1 : x.r.paid < 0
 ·(refine x4 5 ?_); (refine We F a1 a2 b1 ?_); exact hK _ _ ⟨by rw [dF fun h => by have := h.2.1.1; omega], S.fr⟩
 by_cases b2 : 1125899906842624 < x.r.paid
 ·(refine x4 5 ?_); (refine Wf F a1 a2 b1 b2 ?_); exact hK _ _ ⟨by rw [dF fun h => by have := h.2.1.2; omega], S.fr⟩
 by_cases c1 : x.r.credd < 0
 ·(refine x4 5 ?_); (refine Wg F a1 a2 b1 b2 c1 ?_); exact hK _ _ ⟨by rw [dF fun h => by have := h.2.2.1.1; omega], S.fr⟩
 by_cases c2 : 1125899906842624 < x.r.credd
 ·(refine x4 5 ?_); (refine Wh F a1 a2 b1 b2 c1 c2 ?_); exact hK _ _ ⟨by rw [dF fun h => by have := h.2.2.1.2; omega], S.fr⟩
 by_cases d1 : x.r.given < 0
 ·(refine x4 5 ?_); (refine Wi F a1 a2 b1 b2 c1 c2 d1 ?_); exact hK _ _ ⟨by rw [dF fun h => by have := h.2.2.2.1; omega], S.fr⟩
 by_cases d2 : 1125899906842624 < x.r.given
 ·(refine x4 5 ?_); (refine Wi F a1 a2 b1 b2 c1 c2 (Pc d1 d2) ?_); exact hK _ _ ⟨by rw [dF fun h => by have := h.2.2.2.2; omega], S.fr⟩
 (refine x4 5 ?_); (refine Wi F a1 a2 b1 b2 c1 c2 (Pc d1 d2) ?_)
 exact hK _ _ ⟨by rw [dT ⟨⟨by omega, by omega⟩, ⟨by omega, by omega⟩, ⟨by omega, by omega⟩, by omega, by omega⟩], S.fr⟩
end
section
set_option maxHeartbeats 8000000
theorem b3e {h0 : c9} (x : j0) (ha : Arr j4 1 h0 x.A x.r.us) (hb : Arr j4 1 h0 x.B x.r.gs) (l1 : x.r.us.length < 1000000) (l2 : x.r.gs.length < 1000000) :
  d8 Tryz.prog 162 [.agg x.enc.toArray] h0 fun v h' => v = .bool (dcd (K2 x.r.us x.r.gs)) ∧ Fr h0 h' [] := by
 have S := St.nil h0
 have ha' : ∀ {h' : c9} {l : List HP}, St h0 h' l → Arr j4 1 h' x.A x.r.us := fun S => ha.fr S.fr (by simp)
 have hb' : ∀ {h' : c9} {l : List HP}, St h0 h' l → Arr j4 1 h' x.B x.r.gs := fun S => hb.fr S.fr (by simp)
 refine EN i162.eq_1 fun K hK => Wa ?_
 (revert S; (try clear F); refine AL fun b h S F => ?_)
 refine Wc F @j0.enc.eq_1 ?_
 refine cI (B5 _ _ _ _) ?_
 rintro _ _ ⟨rfl, rfl⟩
 by_cases n1 : btw x.r.us.length 1 200
 case neg =>
  rw [dF n1]
  refine Wa ?_
  exact hK _ _ ⟨by rw [dF fun h => n1 h.1], S.fr⟩
 rw [dT n1]
 by_cases n2 : (x.r.gs.length : Int) = x.r.us.length
 case neg =>
  refine Wd F @j0.enc.eq_1 n2 ?_
  exact hK _ _ ⟨by rw [dF fun h => by have := h.2.1; omega], S.fr⟩
 refine Wd F @j0.enc.eq_1 n2 ?_
 refine lI (fun ρ h' => ρ 1 = .pointer (some ⟨b, 0, none⟩) ∧ ρ 20 = .slice x.A x.r.us.length x.c ∧ ρ 21 = .int .i64 x.r.us.length ∧ ∃ i : Nat, ρ 22 = .int .i64 i ∧ i ≤ x.r.us.length ∧ (∀ k, k < i → a2l x.r.us x.r.gs k) ∧ St h0 h' [f8 b x.enc 59]) (fun ρ _ => x.r.us.length - (iv (ρ 22)).toNat) ?_ ?_
 ·refine Wa ?_
  exact ⟨0, rfl, by omega, fun k hk => absurd hk (by omega), S⟩
 clear S F
 rintro ρ h J hJ ⟨e1, e20, e21, i, e22, hi, hok, S⟩
 refine Wc e21 e22 ?_
 refine cD (fun hlt => ?_) (fun hlt => ?_)
 ·have hil : i < x.r.us.length := by omega
  obtain ⟨b1, o1, hA1, q1⟩ := (ha' S).at hil
  obtain ⟨b2, o2, hA2, q2⟩ := (hb' S).at (i := i) (by omega)
  have q1 := rP0 q1 (by omega)
  have q2 := rP0 q2 (by omega)
  simp only [j4, l_o, x5] at q1 q2
  rw [← m8] at q1 q2
  have hbad : ¬ a2l x.r.us x.r.gs i → ¬ K2 x.r.us x.r.gs := fun hn h => hn (h.2.2 i hil)
  have hgo := fun hx => a9C hok (i := i) hx
  have hU : a2l x.r.us x.r.gs i ↔ (btw (x.r.us.getD i 0) 0 199 ∧ (0 < i → x.r.us.getD (i - 1) 0 < x.r.us.getD i 0) ∧ btw (x.r.gs.getD i 0) (-1) 4) := Iff.rfl
  ((try clear F); have F := S.fx)
  refine Wf e20 e22 hA1 q1 @x5 ?_
  refine cI (B5 _ _ _ _) ?_
  rintro _ _ ⟨rfl, rfl⟩
  by_cases c1 : btw (x.r.us.getD i 0) 0 199
  case neg =>
   rw [dF c1]
   refine Wa ?_
   exact hK _ _ ⟨by rw [dF (hbad fun h => c1 (hU.1 h).1)], S.fr⟩
  rw [dT c1]
  by_cases c2 : 0 < i
  ·obtain ⟨j, rfl⟩ : ∃ j, i = j + 1 := ⟨i - 1, by omega⟩
   obtain ⟨b3, o3, hA3, q3⟩ := (ha' S).at (i := j) (by omega)
   rw [hA1] at hA3
   cases hA3
   have q3 := rP0 q3 (by omega)
   simp only [j4, l_o, x5] at q3
   rw [← m8] at q3
   have hj1 : ((j + 1 : Nat) : Int) - 1 = (j : Int) := by omega
   have hj0 : (0 : Int) < ((j + 1 : Nat) : Int) := by omega
   rw [a3O] at hU
   by_cases c3 : x.r.us.getD (j + 1) 0 ≤ x.r.us.getD j 0
   ·refine Wi e1 F @j0.enc.eq_1 hA1 hj0 hj1 q3 (Pc c3 @x5) ?_
    exact hK _ _ ⟨by rw [dF (hbad fun h => by have := (hU.1 h).2.1 (by omega); omega)], S.fr⟩
   refine Wi e1 F @j0.enc.eq_1 hA1 hA2 hj0 hj1 (Pe q2 q3 c3 @x5) ?_
   refine cI (B5 _ _ _ _) ?_
   rintro _ _ ⟨rfl, rfl⟩
   by_cases c4 : btw (x.r.gs.getD (j + 1) 0) (-1) 4
   case neg =>
    rw [dF c4]
    refine Wa ?_
    exact hK _ _ ⟨by rw [dF (hbad fun h => c4 (hU.1 h).2.2)], S.fr⟩
   rw [dT c4]
   refine Wb e22 ?_
   refine hJ _ _ ?_ ?_
   ·refine We e1 e20 e21 hA1 ?_
    exact ⟨j + 1 + 1, rfl, by omega, hgo (hU.2 ⟨c1, fun _ => by omega, c4⟩), S⟩
   ·refine Wb e22 ?_
    omega
  ·obtain rfl : i = 0 := by omega
   rw [T2] at q1 q2
   refine Wg e1 F @j0.enc.eq_1 hA2 q2 @x5 ?_
   refine cI (B5 _ _ _ _) ?_
   rintro _ _ ⟨rfl, rfl⟩
   by_cases c4 : btw (x.r.gs.getD 0 0) (-1) 4
   case neg =>
    rw [dF c4]
    refine Wa ?_
    exact hK _ _ ⟨by rw [dF (hbad fun h => c4 (hU.1 h).2.2)], S.fr⟩
   rw [dT c4]
   refine Wb e22 ?_
   refine hJ _ _ ?_ ?_
   ·refine We e1 e20 e21 hA1 ?_
    exact ⟨1, rfl, by omega, hgo (hU.2 ⟨c1, fun h => absurd h (by omega), c4⟩), S⟩
   ·refine Wb e22 ?_
    omega
 obtain rfl : i = x.r.us.length := by omega
 refine Wa ?_
 exact hK _ _ ⟨by rw [dT ⟨n1, by omega, hok⟩], S.fr⟩
theorem a8L {h0 : c9} (x : j0) (ha : Arr j4 1 h0 x.A x.r.us) (hb : Arr j4 1 h0 x.B x.r.gs) (l1 : x.r.us.length < 1000000) (l2 : x.r.gs.length < 1000000) :
  d8 Tryz.prog 131 [.agg x.enc.toArray] h0 fun v h' => v = .bool (dcd x.r.right) ∧ Fr h0 h' [] := by
 have S := St.nil h0
 refine EN i131.eq_1 fun K hK => Wa ?_
 (revert S; (try clear F); refine AL fun b h S F => ?_)
 refine Wc F @j0.enc.eq_1 ?_
 refine cI (B5 _ _ _ _) ?_
 rintro _ _ ⟨rfl, rfl⟩
 by_cases p0 : btw x.r.num 1 100
 case neg =>
  rw [dF p0]
  refine Wc F @j0.enc.eq_1 ?_
  exact hK _ _ ⟨by rw [dF fun h => p0 h.1], S.fr⟩
 rw [dT p0]
 refine Wc F @j0.enc.eq_1 ?_
 refine cI (B5 _ _ _ _) ?_
 rintro _ _ ⟨rfl, rfl⟩
 by_cases p1 : btw x.r.ord 0 19
 case neg =>
  rw [dF p1]
  refine Wc F @j0.enc.eq_1 ?_
  exact hK _ _ ⟨by rw [dF fun h => p1 h.2.1], S.fr⟩
 rw [dT p1]
 refine Wc F @j0.enc.eq_1 ?_
 refine cI (B5 _ _ _ _) ?_
 rintro _ _ ⟨rfl, rfl⟩
 by_cases p2 : btw x.r.rea 0 3
 case neg =>
  rw [dF p2]
  refine Wc F @j0.enc.eq_1 ?_
  exact hK _ _ ⟨by rw [dF fun h => p2 h.2.2.1], S.fr⟩
 rw [dT p2]
 refine Wc F @j0.enc.eq_1 ?_
 refine cI (B5 _ _ _ _) ?_
 rintro _ _ ⟨rfl, rfl⟩
 by_cases p3 : btw x.r.want 0 1000
 case neg =>
  rw [dF p3]
  refine Wc F @j0.enc.eq_1 ?_
  exact hK _ _ ⟨by rw [dF fun h => p3 h.2.2.2.1], S.fr⟩
 rw [dT p3]
 refine Wc F @j0.enc.eq_1 ?_
 refine cI (B5 _ _ _ _) ?_
 rintro _ _ ⟨rfl, rfl⟩
 by_cases p4 : btw x.r.res (-1) 199
 case neg =>
  rw [dF p4]
  refine Wc F @j0.enc.eq_1 ?_
  exact hK _ _ ⟨by rw [dF fun h => p4 h.2.2.2.2.1], S.fr⟩
 rw [dT p4]
 refine Wc F @j0.enc.eq_1 ?_
 refine cI (B5 _ _ _ _) ?_
 rintro _ _ ⟨rfl, rfl⟩
 by_cases p5 : btw x.r.state 1 9
 case neg =>
  rw [dF p5]
  refine Wc F @j0.enc.eq_1 ?_
  exact hK _ _ ⟨by rw [dF fun h => p5 h.2.2.2.2.2.1], S.fr⟩
 rw [dT p5]
 refine Wc F @j0.enc.eq_1 ?_
 refine cI (B5 _ _ _ _) ?_
 rintro _ _ ⟨rfl, rfl⟩
 by_cases p6 : btw x.r.day 0 100000
 case neg =>
  rw [dF p6]
  refine Wc F @j0.enc.eq_1 ?_
  exact hK _ _ ⟨by rw [dF fun h => p6 h.2.2.2.2.2.2.1], S.fr⟩
 rw [dT p6]
 refine Wc F @j0.enc.eq_1 ?_
 rw [show [Value.int .i64 x.r.num, .int .i64 x.r.ord, .int .i64 x.r.rea, .int .i64 x.r.want, .int .i64 x.r.res, .bool x.r.cred, .int .i64 x.r.state, .int .i64 x.r.day, .slice x.A x.r.us.length x.c, .slice x.B x.r.gs.length x.d, .int .i64 x.r.worth, .int .i64 x.r.paid, .int .i64 x.r.credd, .int .i64 x.r.given] = x.enc from rfl]
 refine cI (b3e x (ha.fr S.fr (by simp)) (hb.fr S.fr (by simp)) l1 l2) ?_
 rintro _ h ⟨rfl, f1⟩
 have S := S.frame f1
 by_cases p7 : K2 x.r.us x.r.gs
 case neg =>
  rw [dF p7]
  refine Wa ?_
  exact hK _ _ ⟨by rw [dF fun h => p7 h.2.2.2.2.2.2.2.1], S.fr⟩
 rw [dT p7]
 ((try clear F); have F := S.fx)
 refine Wc F @j0.enc.eq_1 ?_
 rw [show [Value.int .i64 x.r.num, .int .i64 x.r.ord, .int .i64 x.r.rea, .int .i64 x.r.want, .int .i64 x.r.res, .bool x.r.cred, .int .i64 x.r.state, .int .i64 x.r.day, .slice x.A x.r.us.length x.c, .slice x.B x.r.gs.length x.d, .int .i64 x.r.worth, .int .i64 x.r.paid, .int .i64 x.r.credd, .int .i64 x.r.given] = x.enc from rfl]
 refine cI (b6H x _) ?_
 rintro _ h ⟨rfl, f1⟩
 have S := S.frame f1
 refine Wa ?_
 refine hK _ _ ⟨?_, S.fr⟩
 by_cases p8 : a0M x.r.worth ∧ a0M x.r.paid ∧ a0M x.r.credd ∧ a0M x.r.given
 ·rw [dT p8, dT ⟨p0, p1, p2, p3, p4, p5, p6, p7, p8⟩]
 ·rw [dF p8, dF fun h => p8 h.2.2.2.2.2.2.2.2]
end
def b8v (p : Pol) : Int := (if p.fin then 1 else 0) + (if p.exc then 2 else 0) + (if p.cre then 4 else 0)
def Pol.bytes (p : Pol) : List UInt8 := le 2 p.w ++ (le 1 (b8v p) ++ (le 2 p.f0 ++ (le 2 p.f1 ++ (le 2 p.f2 ++ (le 2 p.f3 ++ (le 2 p.s0 ++ (le 1 p.t0 ++ (le 2 p.s1 ++ (le 1 p.t1 ++ (le 2 p.s2 ++ (le 1 p.t2 ++ (le 2 p.s3 ++ le 1 p.t3))))))))))))
def b9q (l : List Pol) : List UInt8 := le 2 l.length ++ l.flatMap Pol.bytes
def Pol.ok (p : Pol) : Prop := I64 p.w ∧ I64 p.f0 ∧ I64 p.f1 ∧ I64 p.f2 ∧ I64 p.f3 ∧ I64 p.s0 ∧ I64 p.t0 ∧ I64 p.s1 ∧ I64 p.t1 ∧ I64 p.s2 ∧ I64 p.t2 ∧ I64 p.s3 ∧ I64 p.t3
theorem b9w {h : c9} {d : Nat} {cs : List Value} (hg : a1P Tryz.prog h d 105 cs) : ∃ x : Pol, cs = x.enc ∧ x.ok := by
 have hl : V2 Tryz.prog 4 105 = some [.int .i64, .bool, .bool, .bool, .int .i64, .int .i64, .int .i64, .int .i64, .int .i64, .int .i64, .int .i64, .int .i64, .int .i64, .int .i64, .int .i64, .int .i64] := by kernel_rfl
 obtain ⟨a0, _, rfl, w0, b1, _, rfl, b2, _, rfl, b3, _, rfl, a4, _, rfl, w4, a5, _, rfl, w5, a6, _, rfl, w6, a7, _, rfl, w7, a8, _, rfl, w8, a9, _, rfl, w9, a10, _, rfl, w10, a11, _, rfl, w11, a12, _, rfl, w12, a13, _, rfl, w13, a14, _, rfl, w14, a15, _, rfl, w15, rfl⟩ := G1 4 hg hl
 exact ⟨⟨a0, b1, b2, b3, a4, a5, a6, a7, a8, a9, a10, a11, a12, a13, a14, a15⟩, rfl, v7 w0, v7 w4, v7 w5, v7 w6, v7 w7, v7 w8, v7 w9, v7 w10, v7 w11, v7 w12, v7 w13, v7 w14, v7 w15⟩
theorem c0F {h0 h : c9} {l : List HP} {A : Option Addr} {c : Nat} {xs : List Pol} (S : St h0 h l) (ha : ∀ h', St h0 h' l → Arr Pol.enc 16 h' A xs) (k : Int) :
  d8 Tryz.prog 121 [.slice A xs.length c, .int .i64 k] h fun v h' => St h0 h' l ∧ ((∃ i : Nat, ∃ hi : i < xs.length, k = i ∧ v = .tuple #[.agg xs[i].enc.toArray, .int .i64 0]) ∨ ((k < 0 ∨ xs.length ≤ k) ∧ v = .tuple #[.agg Pol.zero.enc.toArray, .int .i64 10])) := by
 by_cases hk : k < 0
 ·refine EN i121.eq_1 fun K hK => Wa ?_
  (revert S; (try clear F); refine AL fun b h S F => ?_)
  refine Wb F ?_
  (revert S; (try clear F); refine ST fun h S F => ?_)
  refine Wb F ?_
  exact hK _ _ ⟨S.tl, .inr ⟨.inl hk, rfl⟩⟩
 ·by_cases hk2 : (xs.length : Int) ≤ k
  ·refine EN i121.eq_1 fun K hK => Wa ?_
   (revert S; (try clear F); refine AL fun b h S F => ?_)
   refine Wb F ?_
   (revert S; (try clear F); refine ST fun h S F => ?_)
   refine Wb F ?_
   exact hK _ _ ⟨S.tl, .inr ⟨.inr hk2, rfl⟩⟩
  ·obtain ⟨i, rfl⟩ := l_u (show 0 ≤ k by omega)
   have hi : i < xs.length := by omega
   obtain ⟨b, off, rfl, hr1⟩ := (ha _ S).at hi
   refine EN i121.eq_1 fun K hK => Wa ?_
   (revert S; (try clear F); refine AL fun g h S F => ?_)
   obtain ⟨b', off', hA, hr2⟩ := (ha _ S.tl).at hi
   cases hA
   refine Wd F hr2 @Pol.enc.eq_1 ?_
   (revert S; (try clear F); refine ST fun h S F => ?_)
   refine Wb F ?_
   exact hK _ _ ⟨S.tl, .inl ⟨i, hi, rfl, rfl⟩⟩

end Go.Proofs.YtcgbhcgfdcfmaaaGreat.MX
