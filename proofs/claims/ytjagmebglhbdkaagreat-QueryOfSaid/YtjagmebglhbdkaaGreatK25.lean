import Derived.Test.YtjagmebglhbdkaaGreatK24
import Derived.Test.YtjagmebglhbdkaaGreatK13
import Derived.Test.YtjagmebglhbdkaaGreatK21
import Derived.Test.YtjagmebglhbdkaaGreatK23
namespace Go.Proofs.YtjagmebglhbdkaaGreat.MX
open Go Go.Proofs
set_option linter.unusedSimpArgs false
set_option linter.unusedVariables false
section
set_option maxHeartbeats 8000000
def C6 (ps : List Pol) (k : Int) : Pol := if 0 ≤ k then ps.getD k.toNat Pol.zero else Pol.zero
def j8 (U : List Unt) (u : Int) : Unt := U.getD u.toNat ⟨0, 0, 0, 0⟩
def a0U (ps : List Pol) (U : List Unt) (rea u g : Int) : Int := if g = 4 then (j8 U u).share else if 0 ≤ g then wrt (C6 ps (j8 U u).cat) (j8 U u).share rea g else 0
def a3T (ps : List Pol) (U : List Unt) (r : Ret) (i : Nat) : Int := (((r.us.zip r.gs).take i).map fun x => a0U ps U r.rea x.1 x.2).sum
def P8 (ps : List Pol) (U : List Unt) (r : Ret) : Int := ((r.us.zip r.gs).map fun x => a0U ps U r.rea x.1 x.2).sum
theorem a6q : Pol.zero.right := by
 simp [Pol.right, Pol.zero, S6, Y4]
theorem N9 {ps : List Pol} (h : a3H ps) (k : Int) : (C6 ps k).right := by
 unfold C6
 split
 ·rw [l_s]
  by_cases hk : k.toNat < ps.length
  ·rw [l_r hk]; exact h.2 _ (l_v hk)
  ·rw [a0s (by omega)]; exact a6q
 ·exact a6q
theorem b7Q {ps : List Pol} {i : Nat} (hi : i < ps.length) : C6 ps (i : Int) = ps[i] := by
 rw [C6, if_pos (by omega), L4, l_s, l_r hi]; rfl
theorem b5U {ps : List Pol} {k : Int} (hk : k < 0 ∨ (ps.length : Int) ≤ k) : C6 ps k = Pol.zero := by
 unfold C6
 split
 ·rw [l_s, a0s (by omega)]; rfl
 ·rfl
def b5I (U : List Unt) : Prop := ∀ u ∈ U, 0 ≤ u.share ∧ u.share ≤ 4294967296
theorem K0 {U : List Unt} (h : b5I U) (u : Int) : 0 ≤ (j8 U u).share ∧ (j8 U u).share ≤ 4294967296 := by
 unfold j8
 rw [l_s]
 by_cases hk : u.toNat < U.length
 ·rw [l_r hk]; exact h _ (l_v hk)
 ·rw [a0s (by omega)]; exact ⟨by decide, by decide⟩
theorem b1f {ps : List Pol} {U : List Unt} (hp : a3H ps) (hU : b5I U) (rea u g : Int) : 0 ≤ a0U ps U rea u g ∧ a0U ps U rea u g ≤ 4294967296 := by
 have h1 := K0 hU u
 unfold a0U
 split
 ·exact h1
 ·split
  ·have := a5a (p := C6 ps (j8 U u).cat) (sh := (j8 U u).share) (r := rea) (g := g) (N9 hp _) h1.1
   omega
  ·omega
theorem b1M {ps : List Pol} {U : List Unt} {r : Ret} (hl : r.gs.length = r.us.length) : a3T ps U r r.us.length = P8 ps U r := by
 unfold a3T P8
 rw [a2x (by rw [List.length_zip]; omega)]
theorem a7S {ps : List Pol} {U : List Unt} {r : Ret} (hp : a3H ps) (hU : b5I U) (i : Nat) : 0 ≤ a3T ps U r i ∧ a3T ps U r i ≤ 4294967296 * i := by
 have h : ∀ l : List (Int × Int), 0 ≤ (l.map fun x => a0U ps U r.rea x.1 x.2).sum ∧ (l.map fun x => a0U ps U r.rea x.1 x.2).sum ≤ 4294967296 * l.length := by
  intro l
  induction l with
  | nil => simp
  | cons x l ih =>
   have := b1f hp hU r.rea x.1 x.2
   rw [H2, K7, l_f]
   omega
 have h1 := h ((r.us.zip r.gs).take i)
 have h2 : ((r.us.zip r.gs).take i).length ≤ i := by rw [v5]; omega
 unfold a3T
 omega
theorem b7Y {h0 h : c9} {l : List HP} {A : Option Addr} {c : Nat} {xs : List Pol} (S : St h0 h l) (ha : ∀ h', St h0 h' l → Arr Pol.enc 16 h' A xs) (k : Int) :
  d8 Tryz.prog 66 [.slice A xs.length c, .int .i64 k] h fun v h' => St h0 h' l ∧ ∃ e, v = .tuple #[.agg (C6 xs k).enc.toArray, .int .i64 e] := by
 refine (c3U S ha k).mono ?_
 rintro v h' ⟨S, ⟨i, hi, rfl, rfl⟩ | ⟨hk, rfl⟩⟩
 ·exact ⟨S, 0, by rw [b7Q hi]⟩
 ·exact ⟨S, 10, by rw [b5U hk]⟩
end
section
set_option maxHeartbeats 16000000
def s9 (ss : List Sup) (sku : Int) : Option Int := match ss with
 | [] => none
 | s :: ss => if s.sku = sku then some s.price else s9 ss sku
theorem a7m {ss : List Sup} {sku : Int} : ∀ {i : Nat} (hi : i < ss.length), (∀ s ∈ ss.take i, s.sku ≠ sku) → ss[i].sku = sku → s9 ss sku = some ss[i].price := by
 induction ss with
 | nil => intro i hi; simp at hi
 | cons s ss ih =>
  intro i hi h1 h2
  match i with
  | 0 => simp only [List.getElem_cons_zero] at h2 ⊢; rw [s9, if_pos h2]
  | i + 1 =>
   rw [s9, if_neg (h1 s (by simp))]
   exact ih (by simpa using hi) (fun x hx => h1 x (by simp [hx])) h2
theorem a7r {ss : List Sup} {sku : Int} (h : ∀ s ∈ ss, s.sku ≠ sku) : s9 ss sku = none := by
 induction ss with
 | nil => rfl
 | cons s ss ih => rw [s9, if_neg (h s (by simp)), ih fun x hx => h x (by simp [hx])]
theorem b0N {ss : List Sup} {sku : Int} {i : Nat} (hi : i < ss.length) (h1 : ∀ s ∈ ss.take i, s.sku ≠ sku) (h2 : ¬ ss[i].sku = sku) : ∀ s ∈ ss.take (i + 1), s.sku ≠ sku := by
 rw [l_t hi]
 intro s hs
 rcases List.mem_append.1 hs with hs | hs
 ·exact h1 s hs
 ·rw [V2] at hs; rw [hs]; exact h2
theorem a5l {h0 : c9} (C : Cfg) (sku : Int) (r : Arr Sup.enc 3 h0 C.A2 C.ss) (l2 : C.ss.length < 1000000) :
  d8 Tryz.prog 192 [.agg C.enc.toArray, .int .i64 sku] h0 fun v h' => v = .tuple #[.int .i64 ((s9 C.ss sku).getD 0), .int .i64 (if (s9 C.ss sku).isSome then 0 else 7)] ∧ Fr h0 h' [] := by
 have S := St.nil h0
 refine EN i192.eq_1 fun K hK => Wa ?_
 (revert S; (try clear F); refine AL fun g h S F => ?_)
 refine Wc F @Cfg.enc.eq_1 ?_
 refine lI (fun ρ h' => ρ 1 = .int .i64 sku ∧ ρ 9 = .slice C.A2 C.ss.length C.c2 ∧ ρ 10 = .int .i64 C.ss.length ∧ (∃ i : Nat, ρ 11 = .int .i64 i ∧ i ≤ C.ss.length ∧ ∀ s ∈ C.ss.take i, s.sku ≠ sku) ∧ St h0 h' []) (fun ρ _ => C.ss.length - (iv (ρ 11)).toNat) ?_ ?_
 ·refine Wa ?_
  exact ⟨⟨0, rfl, by omega, by simp⟩, S.tl⟩
 clear S F
 rintro ρ h J hJ ⟨e1, e9, e10, ⟨i, e11, hi, hne⟩, S⟩
 refine Wc e10 e11 ?_
 refine cD (fun hlt => ?_) (fun hlt => ?_)
 ·have hil : i < C.ss.length := by omega
  obtain ⟨b, off, hA, hr1⟩ := (r.fr S.fr (by simp)).at hil
  have hat := fun h => a7m (sku := sku) hil hne h
  have hsn := fun h => b0N (sku := sku) hil hne h
  generalize C.ss[i] = x at *
  refine We e9 e11 hA hr1 ?_
  (revert S; (try clear F); refine AL fun q h S F => ?_)
  refine Wc F @Sup.enc.eq_1 ?_
  (revert S; (try clear F); refine ST fun h S F => ?_)
  by_cases c1 : x.sku = sku
  ·refine Wd F e1 c1 ?_
   exact hK _ _ ⟨by rw [hat c1]; rfl, S.fr⟩
  ·refine We F e1 c1 e11 ?_
   refine hJ _ _ ?_ ?_
   ·refine Wd e1 e9 e10 ?_
    exact ⟨⟨i + 1, rfl, by omega, hsn c1⟩, S.tl⟩
   ·refine Wb e11 ?_
    omega
 ·obtain rfl : i = C.ss.length := by omega
  rw [C8] at hne
  refine Wa ?_
  exact hK _ _ ⟨by rw [a7r hne]; rfl, S.fr⟩
theorem a4L {h0 : c9} (C : Cfg) (sku : Int) (r : Arr Sup.enc 3 h0 C.A2 C.ss) (l2 : C.ss.length < 1000000) :
  d8 Tryz.prog 159 [.agg C.enc.toArray, .int .i64 sku] h0 fun v h' => v = .tuple #[.int .i64 ((s9 C.ss sku).getD 0), .bool (s9 C.ss sku).isSome] ∧ Fr h0 h' [] := by
 have S := St.nil h0
 refine EN i159.eq_1 fun K hK => Wa ?_
 (revert S; (try clear F); refine AL fun g h S F => ?_)
 refine Wc F @Cfg.enc.eq_1 ?_
 refine lI (fun ρ h' => ρ 1 = .int .i64 sku ∧ ρ 2 = .pointer (some ⟨g, 0, none⟩) ∧ ρ 9 = .int .i64 C.ss.length ∧ (∃ i : Nat, ρ 10 = .int .i64 i ∧ i ≤ C.ss.length ∧ ∀ s ∈ C.ss.take i, s.sku ≠ sku) ∧ St h0 h' [d9 g C.enc 26]) (fun ρ _ => C.ss.length - (iv (ρ 10)).toNat) ?_ ?_
 ·refine Wa ?_
  exact ⟨⟨0, rfl, by omega, by simp⟩, S⟩
 clear S F
 rintro ρ h J hJ ⟨e1, e2, e9, ⟨i, e10, hi, hne⟩, S⟩
 refine Wc e9 e10 ?_
 refine cD (fun hlt => ?_) (fun hlt => ?_)
 ·have hil : i < C.ss.length := by omega
  obtain ⟨b, off, hA, hr1⟩ := (r.fr S.fr (by simp)).at hil
  have hat := fun h => a7m (sku := sku) hil hne h
  have hsn := fun h => b0N (sku := sku) hil hne h
  generalize C.ss[i] = x at *
  have hq0 := rP0 hr1 (by omega)
  have hq1 := rP hr1 1 (by omega)
  simp only [Sup.enc, l_o, l_p] at hq0 hq1
  ((try clear F); have F := S.fx)
  by_cases c1 : x.sku = sku
  ·refine Wi e2 F @Cfg.enc.eq_1 e10 hA hq0 e1 (Pc c1 hq1) ?_
   exact hK _ _ ⟨by rw [hat c1]; rfl, S.fr⟩
  ·refine Wi e2 F @Cfg.enc.eq_1 e10 hA hq0 e1 c1 ?_
   refine hJ _ _ ?_ ?_
   ·refine Wd e1 e2 e9 ?_
    exact ⟨⟨i + 1, rfl, by omega, hsn c1⟩, S⟩
   ·refine Wb e10 ?_
    omega
 ·obtain rfl : i = C.ss.length := by omega
  rw [C8] at hne
  refine Wa ?_
  exact hK _ _ ⟨by rw [a7r hne]; rfl, S.fr⟩
end
structure Wk where
 s : Sag
 sd : List Msg
structure Cmd where
 kind : Int
 ord : Int
 us : List Int
 rea : Int
 want : Int
 cred : Bool
 rma : Int
 unit : Int
 grade : Int
 days : Int
 key : Int
 yes : Bool
abbrev w64 (n : Int) : Int := IntKind.i64.wrap n
def I8 (a b : Int) : Prop := a = 0 ∧ b = 1 ∨ a = 1 ∧ (b = 2 ∨ b = 6) ∨ a = 2 ∧ (b = 3 ∨ b = 4 ∨ b = 5 ∨ b = 8) ∨ a = 3 ∧ b = 7 ∨ a = 7 ∧ (b = 3 ∨ b = 8) ∨ a = 8 ∧ (b = 0 ∨ b = 6)
instance (a b : Int) : Decidable (I8 a b) := by unfold I8; exact inferInstance
def a5h (u : KU) (to : Int) : KU := ⟨to, u.sku, u.recv || decide (to = 2), u.grad || decide (u.place = 2)⟩
def KU0 : KU := ⟨0, 0, false, false⟩
def I5 (K : List KU) (n to : Int) : Int := if 0 ≤ n ∧ n < K.length then (if I8 (i9 K n) to then 0 else 8) else 7
def D9 (K : List KU) (n to : Int) : List KU := if I5 K n to = 0 then K.set n.toNat (a5h (K.getD n.toNat KU0) to) else K
def a1Q (K : List KU) (sku : Int) : Option Nat := K.findIdx? fun u => decide (u.place = 3 ∧ u.sku = sku)
def D8 (st by_ : Int) : Option Int :=
 if by_ = 1 ∧ st = 1 then some 2 else if by_ = 2 ∧ st = 2 then some 3 else if by_ = 3 ∧ st = 3 then some 4 else if by_ = 4 ∧ st = 4 ∨ by_ = 5 ∧ st = 3 then some 5
 else if by_ = 6 ∧ st = 5 then some 6 else if (by_ = 7 ∨ by_ = 8 ∨ by_ = 9) ∧ (st = 1 ∨ st = 2) then some by_ else none
def Led.get (l : Led) (n : Int) : Int := if n = 0 then l.a else if n = 1 then l.b else if n = 2 then l.c else if n = 3 then l.d else l.e
def Led.put (l : Led) (n v : Int) : Led := if n = 0 then { l with a := v } else if n = 1 then { l with b := v } else if n = 2 then { l with c := v } else if n = 3 then { l with d := v } else { l with e := v }
def okC (n : Int) : Prop := -1125899906842624 ≤ n ∧ n ≤ 1125899906842624
instance (n : Int) : Decidable (okC n) := by unfold okC; exact inferInstance
def a1a (l : Led) (a b sum : Int) : Except Int Led :=
 if sum < 0 then .error 1 else if okC (l.get a) ∧ okC (l.get b) ∧ okC sum ∧ okC (l.get a - sum) ∧ okC (l.get b + sum) then .ok ((l.put a (l.get a - sum)).put b (l.get b + sum)) else .error 9
def Sag.at_ (s : Sag) (n : Int) : Option Ret := if 1 ≤ n then s.R[(n - 1).toNat]? else none
def Wk.R (w : Wk) (i : Nat) : Ret := w.s.R.getD i Ret.zero
def Wk.put (w : Wk) (i : Nat) (r : Ret) : Wk := { w with s := { w.s with R := w.s.R.set i r } }
def Wk.led (w : Wk) (l : Led) : Wk := { w with s := { w.s with led := l } }
def Wk.mv (w : Wk) (n to : Int) : Wk := { w with s := { w.s with K := D9 w.s.K n to } }
def H8 (w : Wk) (kind num value : Int) : Wk :=
 ⟨{ w.s with key := w.s.key + 1, O := w.s.O ++ [⟨w.s.key, kind, num, value, 1, w.s.now + 1⟩] }, w.sd ++ [⟨w.s.key, kind, num, value, 1, w.s.now + 1⟩]⟩
def j2 (w : Wk) (i : Nat) : Wk := if 0 ≤ (w.R i).res then (w.mv (w.R i).res 3).put i { w.R i with res := -1 } else w
def dropL (O : List Msg) (num : Int) : List Msg := O.filter fun m => !decide (m.rma = num ∧ m.kind = 1)
def L6 (w : Wk) (num by_ : Int) : Except Int Wk :=
 match w.s.at_ num with
 | none => .error 7
 | some r => match D8 r.state by_ with
  | none => .error 8
  | some st =>
   let w2 := j2 (w.put (num - 1).toNat { r with state := st }) (num - 1).toNat
   .ok { w2 with s := { w2.s with T := without w2.s.T num, O := dropL w2.s.O num } }
def H1 (w : Wk) (num by_ : Int) : Except Int Wk :=
 match w.s.at_ num with
 | none => .error 7
 | some r => match D8 r.state by_ with
  | none => .error 8
  | some st => .ok (w.put (num - 1).toNat { r with state := st })
def s7 (w : Wk) (us : List Int) (to : Int) : Wk := us.foldl (fun w u => w.mv u to) w
def a2d (w : Wk) (num d : Int) : Wk := { w with s := { w.s with T := setT w.s.T num d } }
def Q5 (w : Wk) (num : Int) : Wk := { w with s := { w.s with T := without w.s.T num } }
def a2n (w : Wk) (num : Int) : Except Int Wk :=
 (H1 w num 2).bind fun w1 => let w2 := s7 w1 (w1.R (num - 1).toNat).us 1; .ok (a2d w2 num (w2.s.now + 30))
def N3 (w : Wk) (num : Int) : Except Int Wk :=
 (H1 w num 3).bind fun w1 => let w2 := s7 w1 (w1.R (num - 1).toNat).us 2; .ok (Q5 w2 num)
def P4 (w : Wk) (a b sum : Int) : Except Int Wk := (a1a w.s.led a b sum).map w.led
def V6 (w : Wk) (i : Nat) (sum : Int) : Except Int Wk := P4 (w.put i { w.R i with credd := w64 ((w.R i).credd + sum) }) 1 3 sum
def Q9 (w : Wk) (i : Nat) (sum : Int) : Except Int Wk := if sum = 0 then .ok w else if (w.R i).cred = true then V6 w i sum else .ok (H8 w 2 (w.R i).num sum)
def x9 (w : Wk) (i : Nat) : Wk := if (w.R i).state = 5 ∧ j5 (w.R i).num w.s.O = 0 then w.put i { w.R i with state := 6 } else w
def G0 (ss : List Sup) (w : Wk) (i : Nat) (by_ : Int) : Except Int Wk :=
 match D8 (w.R i).state by_ with
 | none => .error 8
 | some st =>
  (P4 (w.put i { w.R i with state := st }) 0 1 (w.R i).worth).bind fun w1 =>
   let price := (s9 ss (w1.R i).want).getD 0
   (if 0 ≤ (w1.R i).res then (if (w1.R i).worth < price then Q9 (j2 w1 i) i (w1.R i).worth else Q9 (H8 w1 3 (w1.R i).num (w1.R i).res) i (w64 ((w1.R i).worth - price))) else Q9 w1 i (w1.R i).worth).map fun w2 => x9 w2 i
def u6 (U : List Unt) (w : Wk) (i : Nat) : Nat → Wk
 | 0 => w
 | j + 1 =>
  let w1 := u6 U w i j
  let u := (w1.R i).us.getD j 0
  (w1.mv u 6).put i { w1.R i with gs := (w1.R i).gs.set j 4, worth := w64 ((w1.R i).worth + (j8 U u).share) }
def a6p (ss : List Sup) (U : List Unt) (w : Wk) (i : Nat) : Except Int Wk := G0 ss (u6 U w i (w.R i).us.length) i 5
def a1t (ss : List Sup) (U : List Unt) (w : Wk) (num : Int) : Except Int Wk :=
 match w.s.at_ num with
 | none => .error 7
 | some r => if r.state = 3 then a6p ss U w (num - 1).toNat else if r.state = 1 ∨ r.state = 2 then L6 w num 8 else .ok w
def M2 {α : Type} (f : Wk → α → Except Int Wk) : Wk → List α → Except Int Wk
 | w, [] => .ok w
 | w, x :: l => (f w x).bind fun w1 => M2 f w1 l
def a1R (ss : List Sup) (U : List Unt) (w : Wk) (days : Int) : Except Int (Wk × List Msg) :=
 if days < 1 ∨ 1000 < days then .error 1 else if 100000 < w.s.now + days then .error 2 else
  let now := w.s.now + days
  (M2 (a1t ss U) { w with s := { w.s with now := now, T := N7 w.s.T now } } ((O4 w.s.T now).map Tm.num)).bind fun w1 =>
   (M2 (fun w (m : Msg) => L6 w m.rma 8) { w1 with s := { w1.s with O := y7 now w1.s.O } } (v9 now w1.s.O)).map fun w2 => (w2, x8 now w1.s.O)
def a0E (w : Wk) (i : Nat) (sum : Int) (yes : Bool) : Except Int Wk :=
 if yes = true then P4 (w.put i { w.R i with paid := w64 ((w.R i).paid + sum) }) 1 2 sum else V6 w i sum
def H5 (ss : List Sup) (w : Wk) (i : Nat) (yes : Bool) : Except Int Wk :=
 let price := (s9 ss (w.R i).want).getD 0
 if yes = true then
  let w1 := w.put i { w.R i with given := w64 ((w.R i).given + price) }
  if I5 w1.s.K (w1.R i).res 8 = 0 then P4 (w1.mv (w1.R i).res 8) 1 4 price else .error (I5 w1.s.K (w1.R i).res 8)
 else Q9 (j2 w i) i price
def I6 (yes : Bool) : Int := if yes = true then 0 else 6
def X5 (ss : List Sup) (w : Wk) (key : Int) (yes : Bool) : Except Int Wk :=
 match w.s.O.findIdx? fun m => decide (m.key = key) with
 | none => .error 16
 | some j =>
  let m := w.s.O.getD j Msg.zero
  let w1 : Wk := { w with s := { w.s with O := w.s.O.take j ++ w.s.O.drop (j + 1) } }
  match w1.s.at_ m.rma with
  | none => .error 7
  | some _ =>
   let i := (m.rma - 1).toNat
   if m.kind = 1 ∧ yes = false then L6 w1 m.rma 8 else
    (if m.kind = 1 then H1 w1 m.rma 1 else if m.kind = 2 then a0E w1 i m.value yes else if m.kind = 3 then H5 ss w1 i yes
     else if I5 w1.s.K m.value (I6 yes) = 0 then .ok (w1.mv m.value (I6 yes)) else .error (I5 w1.s.K m.value (I6 yes))).map fun w2 => x9 w2 i
noncomputable def N6 (r : Ret) (unit grade : Int) : Except Int Nat := if dcd (r.right ∧ btw grade 0 4) = false then .error 1 else match r.us.findIdx? fun u => decide (u = unit) with
 | none => .error 7
 | some j => if r.gs.getD j 0 ≠ -1 then .error 8 else .ok j
noncomputable def a0M (ps : List Pol) (ss : List Sup) (U : List Unt) (w : Wk) (c : Cmd) (i j : Nat) : Except Int Wk :=
 let r := w.R i
 let x := j8 U c.unit
 let p := C6 ps x.cat
 let w1 := w.put i { r with gs := r.gs.set j c.grade, worth := w64 (r.worth + wrt p x.share r.rea c.grade) }
 let w2 := if p.gto c.grade ≠ 0 then w1.mv c.unit (p.gto c.grade) else H8 (w1.mv c.unit 8) 4 r.num c.unit
 if (w2.R i).gs.contains (-1) = true then .ok w2 else G0 ss w2 i 4
noncomputable def T5 (ps : List Pol) (ss : List Sup) (U : List Unt) (w : Wk) (c : Cmd) : Except Int Wk :=
 match w.s.at_ c.rma with
 | none => .error 7
 | some r => if r.state ≠ 4 then .error 8 else match N6 r c.unit c.grade with
  | .error e => .error e
  | .ok j => if c.grade = 4 then .error 1 else a0M ps ss U w c (c.rma - 1).toNat j
def K5 (s : Sag) (u : Int) : Int := ((s.R.find? fun r => !decide (6 ≤ r.state ∧ r.state ≤ 9) && r.us.contains u).map Ret.num).getD 0
def b0w (p : Pol) (days : Int) (wants : Bool) : Int := if p.fin = true ∨ p.exc = true ∧ wants = false then 12 else if days < 0 ∨ p.w < days then 11 else 0
def E2 (U : List Unt) (c : Cmd) (i : Nat) : Prop := (0 < i → c.us.getD (i - 1) 0 < c.us.getD i 0) ∧ 0 ≤ c.us.getD i 0 ∧ c.us.getD i 0 < U.length ∧ (j8 U (c.us.getD i 0)).ord = c.ord
def F7 (ps : List Pol) (os : List Odr) (U : List Unt) (s : Sag) (c : Cmd) (u : Int) : Int :=
 if i9 s.K u ≠ 0 ∨ 0 < K5 s u then 13 else b0w (C6 ps (j8 U u).cat) (s.now - ((os[c.ord.toNat]?).map Odr.day).getD 0) (decide (0 < c.want))
def a0o {α : Type} (f : α → Int) : List α → Int
 | [] => 0
 | x :: l => if f x = 0 then a0o f l else f x
noncomputable def O0 (ps : List Pol) (os : List Odr) (U : List Unt) (s : Sag) (c : Cmd) : Int :=
 if dcd (∀ i, i < c.us.length → E2 U c i) = false then 1 else if c.rea < 0 ∨ 4 ≤ c.rea ∨ 1000 < c.want then 1 else a0o (F7 ps os U s c) c.us
def V4 (ss : List Sup) (w : Wk) (sku : Int) : Except Int (Int × Wk) :=
 if sku = 0 then .ok (-1, w) else match s9 ss sku with
 | none => .error 14
 | some _ => match a1Q w.s.K sku with
  | none => .error 14
  | some j => .ok ((j : Int), { w with s := { w.s with K := w.s.K.set j { w.s.K.getD j KU0 with place := 7 } } })
noncomputable def E1 (ps : List Pol) (os : List Odr) (ss : List Sup) (U : List Unt) (w : Wk) (c : Cmd) : Except Int (Int × Wk) :=
 if 100 ≤ w.s.R.length then .error 15 else if c.ord < 0 ∨ (os.length : Int) ≤ c.ord then .error 7 else
  if O0 ps os U w.s c ≠ 0 then .error (O0 ps os U w.s c) else
   (V4 ss w c.want).map fun x =>
    let num : Int := w.s.R.length + 1
    let r : Ret := ⟨num, c.ord, c.rea, c.want, x.1, c.cred || c.us.any fun u => (C6 ps (j8 U u).cat).cre, 1, w.s.now, c.us, c.us.map fun _ => -1, 0, 0, 0, 0⟩
    (num, H8 { x.2 with s := { x.2.s with R := w.s.R ++ [r], T := setT x.2.s.T num (w.s.now + 14) } } 1 num 0)
noncomputable def doP (D : Cfg) (U : List Unt) (w : Wk) (c : Cmd) : Except Int (Int × List Msg × Wk) :=
 if c.kind = 1 then (E1 D.ps D.os D.ss U w c).map fun x => (x.1, [], x.2)
 else if c.kind = 2 then (L6 w c.rma 9).map fun x => (0, [], x)
 else if c.kind = 3 then (L6 w c.rma 7).map fun x => (0, [], x)
 else if c.kind = 4 then (a2n w c.rma).map fun x => (0, [], x)
 else if c.kind = 5 then (N3 w c.rma).map fun x => (0, [], x)
 else if c.kind = 6 then (T5 D.ps D.ss U w c).map fun x => (0, [], x)
 else if c.kind = 7 then (a1R D.ss U w c.days).map fun x => (0, x.2, x.1)
 else (X5 D.ss w c.key c.yes).map fun x => (0, [], x)
def Cmd.bare (c : Cmd) : Cmd := if c.kind = 1 then { c with ord := 0, us := [], rea := 0, want := 0, cred := false } else if 2 ≤ c.kind ∧ c.kind ≤ 5 then { c with rma := 0 } else if c.kind = 6 then { c with rma := 0, unit := 0, grade := 0 } else if c.kind = 7 then { c with days := 0 } else if c.kind = 8 then { c with key := 0, yes := false } else c
def Cmd.nought (c : Cmd) : Prop := c.ord = 0 ∧ c.us = [] ∧ c.rea = 0 ∧ c.want = 0 ∧ c.cred = false ∧ c.rma = 0 ∧ c.unit = 0 ∧ c.grade = 0 ∧ c.days = 0 ∧ c.key = 0 ∧ c.yes = false
def Cmd.fits (c : Cmd) : Prop :=
 if c.kind = 1 then (1 ≤ c.us.length ∧ c.us.length ≤ 60) ∧ btw c.ord 0 255 ∧ btw c.rea 0 255 ∧ btw c.want 0 65535 ∧ ∀ u ∈ c.us, btw u 0 255
 else if 2 ≤ c.kind ∧ c.kind ≤ 5 then btw c.rma 0 65535 else if c.kind = 6 then btw c.rma 0 65535 ∧ btw c.unit 0 255 ∧ btw c.grade 0 255 else if c.kind = 7 then btw c.days 0 65535 else if c.kind = 8 then btw c.key 0 4294967295 else False
def Cmd.formed (c : Cmd) : Prop := c.fits ∧ c.bare.nought
noncomputable def O6 (D : Cfg) (U : List Unt) (s : Sag) (c : Cmd) : Int × List Msg × Int × Sag :=
 if dcd c.formed = false then (0, [], 1, s) else match doP D U ⟨s, []⟩ c with
 | .error e => (0, [], e, s)
 | .ok x => (x.1, x.2.2.sd ++ x.2.1, 0, x.2.2.s)
section
set_option maxHeartbeats 4000000
section
variable {h0 h : c9} {l : List HP} {t : Nat} {L : List Tm}
end
end
theorem b4s (W : List Tm) (x : Tm) : b3u W x = (W.takeWhile fun y => decide (m9 y x)) ++ x :: W.dropWhile fun y => decide (m9 y x) := by
 have h1 : W.take (a7X W x) = W.takeWhile fun y => decide (m9 y x) := (List.prefix_iff_eq_take.1 (List.takeWhile_prefix _)).symm
 have h2 : W.drop (a7X W x) = W.dropWhile fun y => decide (m9 y x) := by
  have h3 : (W.takeWhile fun y => decide (m9 y x)) ++ (W.dropWhile fun y => decide (m9 y x)) = W := List.takeWhile_append_dropWhile
  conv => lhs; rw [← h3]
  unfold a7X
  rw [h3]
  conv => lhs; arg 2; rw [← h3]
  rw [List.drop_left]
 unfold b3u
 rw [h1, h2]
theorem b2P {W : List Tm} {x y : Tm} (hy : y ∈ W.takeWhile fun y => decide (m9 y x)) : m9 y x := by
 have := List.all_takeWhile (p := fun y => decide (m9 y x)) (l := W)
 rw [List.all_eq_true] at this
 simpa using this y hy
theorem b8L {W : List Tm} (hs : W.Pairwise m9) {x y : Tm} (hy : y ∈ W.dropWhile fun y => decide (m9 y x)) : ¬ m9 y x := by
 induction W with
 | nil => simp at hy
 | cons a W ih =>
  rw [List.dropWhile_cons] at hy
  by_cases ha : m9 a x
  ·rw [if_pos (by simpa using ha)] at hy
   exact ih (List.pairwise_cons.1 hs).2 hy
  ·rw [if_neg (by simpa using ha)] at hy
   rcases List.mem_cons.1 hy with rfl | hy
   ·exact ha
   ·exact fun h => ha (a1K ((List.pairwise_cons.1 hs).1 y hy) h)
theorem a5A {x y : Tm} (h1 : ¬ m9 y x) (h2 : y.num ≠ x.num) : m9 x y := by
 unfold m9 at *
 omega
theorem c0h {W : List Tm} {x : Tm} (hg : a0f W) (hx : ∀ y ∈ W, y.num ≠ x.num) : a0f (b3u W x) := by
 rw [b4s]
 have hsub1 : ∀ y ∈ W.takeWhile (fun y => decide (m9 y x)), y ∈ W := fun y hy => (List.takeWhile_sublist _).subset hy
 have hsub2 : ∀ y ∈ W.dropWhile (fun y => decide (m9 y x)), y ∈ W := fun y hy => (List.dropWhile_sublist _).subset hy
 have hW : (W.takeWhile fun y => decide (m9 y x)) ++ (W.dropWhile fun y => decide (m9 y x)) = W := List.takeWhile_append_dropWhile
 constructor
 ·have h1 := hg.1
  rw [← hW, a1g] at h1
  rw [a1g, List.pairwise_cons]
  refine ⟨h1.1, ⟨fun y hy => a5A (b8L hg.1 hy) (hx y (hsub2 y hy)), h1.2.1⟩, fun a ha b hb => ?_⟩
  rcases List.mem_cons.1 hb with rfl | hb
  ·exact b2P ha
  ·exact h1.2.2 a ha b hb
 ·have h1 := hg.2
  rw [← hW, a1g] at h1
  rw [a1g, List.pairwise_cons]
  refine ⟨h1.1, ⟨fun y hy => (hx y (hsub2 y hy)).symm, h1.2.1⟩, fun a ha b hb => ?_⟩
  rcases List.mem_cons.1 hb with rfl | hb
  ·exact hx a (hsub1 a ha)
  ·exact h1.2.2 a ha b hb
theorem b1C {L M : List Tm} (hg : a0f L) (hs : M.Sublist L) : a0f M := ⟨hg.1.sublist hs, hg.2.sublist hs⟩
theorem S8 {L : List Tm} (hg : a0f L) (n : Int) : a0f (without L n) := b1C hg List.filter_sublist
theorem b5r {L : List Tm} (hg : a0f L) (d : Int) : a0f (N7 L d) := b1C hg (List.dropWhile_sublist _)
theorem N5 {L : List Tm} {n : Int} {y : Tm} (hy : y ∈ without L n) : y ∈ L ∧ y.num ≠ n := by
 unfold without at hy
 rw [List.mem_filter] at hy
 exact ⟨hy.1, by simpa [Y1] using hy.2⟩
theorem b0Z {L : List Tm} (hg : a0f L) (n d : Int) : a0f (setT L n d) := c0h (S8 hg n) fun y hy => (N5 hy).2
section
structure Stc (D : Cfg) (U : List Unt) : Prop where
 cfg : J9 D
 sh : b5I U
 cat : ∀ u ∈ U, 0 ≤ u.cat
 ul : U.length ≤ 200
structure Wk.wf (U : List Unt) (m : Nat) (w : Wk) : Prop where
 kl : w.s.K.length = U.length
 rl : w.s.R.length ≤ 100
 rr : ∀ r ∈ w.s.R, V5 r.us r.gs ∧ ∀ v ∈ r.us, v < U.length
 tg : a0f w.s.T
 tn : ∀ x ∈ w.s.T, 1 ≤ x.num ∧ x.num ≤ w.s.R.length
 ol : w.s.O.length ≤ 70000 + m
 ot : ∀ x ∈ w.s.O, 0 ≤ x.tries ∧ x.tries ≤ 70000 + m
 key : 1 ≤ w.s.key ∧ w.s.key ≤ 8589934592 + m
 sl : w.sd.length ≤ m
 now : 0 ≤ w.s.now ∧ w.s.now ≤ 100000
theorem b4C : ∀ (n : Nat) (L : List Int), L.Nodup → (∀ x ∈ L, 1 ≤ x ∧ x ≤ n) → L.length ≤ n
 | 0, [], _, _ => x6 _
 | 0, x :: L, _, h => by have := h x (by simp); omega
 | n + 1, L, hn, h => by
  have h1 := b4C n (L.erase ((n + 1 : Nat) : Int)) (hn.erase _) (fun x hx => by
   have hm := List.mem_of_mem_erase hx
   have hne : x ≠ ((n + 1 : Nat) : Int) := fun e => by
    rw [e] at hx
    exact (List.Nodup.not_mem_erase hn) hx
   have := h x hm
   omega)
  have h2 := List.length_erase (a := ((n + 1 : Nat) : Int)) (l := L)
  split at h2 <;> omega
section
variable {U : List Unt} {m : Nat} {w w' : Wk}
theorem Wk.wf.tl (W : w.wf U m) : w.s.T.length ≤ 100 := by
 have h := b4C w.s.R.length (w.s.T.map Tm.num) (by
  rw [List.Nodup, List.pairwise_map]
  exact W.tg.2) (by
  intro x hx
  obtain ⟨y, hy, rfl⟩ := List.mem_map.1 hx
  exact W.tn y hy)
 rw [l_z] at h
 exact X8 h W.rl
theorem Wk.wf.up (W : w.wf U m) {m' : Nat} (h : m ≤ m') : w.wf U m' :=
 ⟨W.kl, W.rl, W.rr, W.tg, W.tn, by have := W.ol; omega, fun x hx => by have := W.ot x hx; omega, by have := W.key; omega, by have := W.sl; omega, W.now⟩
theorem Wk.wf.len (W : w.wf U m) : ∀ r ∈ w.s.R, r.us.length ≤ 200 ∧ r.gs.length = r.us.length := fun r hr => by
 have h := (W.rr r hr).1
 have h1 := h.1.2
 exact ⟨by omega, h.2.1⟩
theorem C2 {i : Nat} (hi : i < w.s.R.length) : w.R i ∈ w.s.R := by
 unfold Wk.R
 rw [l_s, l_r hi]
 exact l_v hi
theorem D4 {i : Nat} {r : Ret} (hi : i < w.s.R.length) : (w.put i r).R i = r := by
 unfold Wk.R Wk.put
 simp [hi]
theorem b3J {i : Nat} {r r' : Ret} : (w.put i r).put i r' = w.put i r' := by
 unfold Wk.put
 simp
theorem n8 {i : Nat} {r : Ret} : (w.put i r).s.R.length = w.s.R.length := by simp [Wk.put]
theorem Wk.wf.put (W : w.wf U m) {i : Nat} {r : Ret} (h : V5 r.us r.gs ∧ ∀ v ∈ r.us, v < U.length) : (w.put i r).wf U m :=
 ⟨W.kl, by rw [n8]; exact W.rl, fun x hx => by
  rcases List.mem_or_eq_of_mem_set hx with hx | hx
  ·exact W.rr x hx
  ·rw [hx]; exact h, W.tg, fun x hx => by have := W.tn x hx; rw [n8]; exact this, W.ol, W.ot, W.key, W.sl, W.now⟩
theorem Wk.wf.putR (W : w.wf U m) {i : Nat} {r : Ret} (hi : i < w.s.R.length) (h1 : r.us = (w.R i).us) (h2 : r.gs = (w.R i).gs) : (w.put i r).wf U m :=
 W.put (by rw [h1, h2]; exact W.rr _ (C2 hi))
theorem O2 (K : List KU) (n to : Int) : (D9 K n to).length = K.length := by
 unfold D9
 split <;> simp
theorem Wk.wf.mv (W : w.wf U m) (n to : Int) : (w.mv n to).wf U m :=
 ⟨by rw [← W.kl]; exact O2 _ _ _, W.rl, W.rr, W.tg, W.tn, W.ol, W.ot, W.key, W.sl, W.now⟩
theorem Wk.wf.led (W : w.wf U m) (l : Led) : (w.led l).wf U m := ⟨W.kl, W.rl, W.rr, W.tg, W.tn, W.ol, W.ot, W.key, W.sl, W.now⟩
theorem Wk.wf.say (W : w.wf U m) (k n v : Int) : (H8 w k n v).wf U (m + 1) :=
 ⟨W.kl, W.rl, W.rr, W.tg, W.tn, by have := W.ol; simp only [H8, l_m, l_f, l_g]; omega, fun x hx => by
  rcases List.mem_append.1 hx with hx | hx
  ·have := W.ot x hx; omega
  ·rw [V2] at hx; rw [hx]; exact ⟨by show (0 : Int) ≤ 1; decide, by show (1 : Int) ≤ _; omega⟩, by have := W.key; simp only [H8]; omega, by have := W.sl; simp only [H8, l_m, l_f, l_g]; omega, W.now⟩
theorem mv_R (w : Wk) (n to : Int) (i : Nat) : (w.mv n to).R i = w.R i := rfl
theorem C4 (w : Wk) (i : Nat) : (j2 w i).s.R.length = w.s.R.length := by
 unfold j2
 split
 ·rw [n8]; rfl
 ·rfl
theorem Wk.wf.release (W : w.wf U m) {i : Nat} (hi : i < w.s.R.length) : (j2 w i).wf U m := by
 unfold j2
 split
 ·exact (W.mv _ _).putR hi rfl rfl
 ·exact W
theorem Wk.wf.without (W : w.wf U m) (n : Int) (O : List Msg) (hO : O.Sublist w.s.O) : Wk.wf U m { w with s := { w.s with T := without w.s.T n, O := O } } :=
 ⟨W.kl, W.rl, W.rr, S8 W.tg n, fun x hx => W.tn x (N5 hx).1, X8 hO.length_le W.ol, fun x hx => W.ot x (hO.subset hx), W.key, W.sl, W.now⟩
theorem Y6 {n : Int} {r : Ret} (h : w.s.at_ n = some r) : ∃ i : Nat, n = (i : Int) + 1 ∧ (n - 1).toNat = i ∧ i < w.s.R.length ∧ w.R i = r ∧ w.s.R[i]? = some r := by
 unfold Sag.at_ at h
 split at h
 ·rename_i h1
  have hlt : (n - 1).toNat < w.s.R.length := by
   by_cases hl : (n - 1).toNat < w.s.R.length
   ·exact hl
   ·rw [a0s (by omega)] at h; cases h
  refine ⟨(n - 1).toNat, by omega, rfl, hlt, ?_, h⟩
  unfold Wk.R
  rw [l_s, h]
  rfl
 ·cases h
theorem T4 {α β : Type} {x : Except Int α} {f : α → Except Int β} {y : β} (h : x.bind f = .ok y) : ∃ z, x = .ok z ∧ f z = .ok y := by
 cases x with
 | error e => cases h
 | ok z => exact ⟨z, rfl, h⟩
theorem t7 {α β : Type} {x : Except Int α} {f : α → β} {y : β} (h : x.map f = .ok y) : ∃ z, x = .ok z ∧ f z = y := by
 cases x with
 | error e => cases h
 | ok z => exact ⟨z, rfl, by cases h; rfl⟩
theorem a3A {num by_ : Int} (h : L6 w num by_ = .ok w') (W : w.wf U m) : w'.wf U m ∧ w'.s.R.length = w.s.R.length := by
 unfold L6 at h
 split at h
 ·cases h
 ·rename_i r hr
  obtain ⟨i, _, hi, hil, rfl, _⟩ := Y6 hr
  rw [hi] at h
  split at h
  ·cases h
  ·rename_i st hst
   cases h
   have h1 : (j2 (w.put i { w.R i with state := st }) i).s.R.length = w.s.R.length := by rw [C4, n8]
   have W1 := (W.putR (i := i) (r := { w.R i with state := st }) hil rfl rfl).release (i := i) (by rw [n8]; exact hil)
   exact ⟨W1.without num _ List.filter_sublist, h1⟩
theorem a2K {num by_ : Int} (h : H1 w num by_ = .ok w') (W : w.wf U m) : w'.wf U m ∧ w'.s.R.length = w.s.R.length ∧ ∃ i : Nat, num = (i : Int) + 1 ∧ (num - 1).toNat = i ∧ i < w.s.R.length ∧ (w'.R i).us = (w.R i).us ∧ (w'.R i).gs = (w.R i).gs := by
 unfold H1 at h
 split at h
 ·cases h
 ·rename_i r hr
  obtain ⟨i, hn, hi, hil, rfl, _⟩ := Y6 hr
  rw [hi] at h
  split at h
  ·cases h
  ·rename_i st hst
   cases h
   exact ⟨W.putR hil rfl rfl, n8, i, hn, hi, hil, by rw [D4 hil], by rw [D4 hil]⟩
theorem W8 (us : List Int) (to : Int) : ∀ {w : Wk}, w.wf U m → (s7 w us to).wf U m ∧ (s7 w us to).s.R = w.s.R := by
 induction us with
 | nil => intro w W; exact ⟨W, rfl⟩
 | cons u us ih =>
  intro w W
  have := ih (W.mv u to)
  exact ⟨this.1, this.2⟩
theorem a4z {a b sum : Int} (h : P4 w a b sum = .ok w') (W : w.wf U m) : w'.wf U m ∧ w'.s.R = w.s.R := by
 obtain ⟨l, _, rfl⟩ := t7 h
 exact ⟨W.led l, rfl⟩
theorem a9i {i : Nat} {sum : Int} (hi : i < w.s.R.length) (h : V6 w i sum = .ok w') (W : w.wf U m) : w'.wf U m ∧ w'.s.R.length = w.s.R.length := by
 have h1 := a4z h (W.putR (i := i) (r := { w.R i with credd := w64 ((w.R i).credd + sum) }) hi rfl rfl)
 exact ⟨h1.1, by rw [h1.2, n8]⟩
theorem a4T {i : Nat} {sum : Int} (hi : i < w.s.R.length) (h : Q9 w i sum = .ok w') (W : w.wf U m) : w'.wf U (m + 1) ∧ w'.s.R.length = w.s.R.length := by
 unfold Q9 at h
 split at h
 ·cases h; exact ⟨W.up (by omega), rfl⟩
 ·split at h
  ·have := a9i hi h W
   exact ⟨this.1.up (by omega), this.2⟩
  ·cases h; exact ⟨W.say _ _ _, rfl⟩
theorem a7c {i : Nat} (hi : i < w.s.R.length) (W : w.wf U m) : (x9 w i).wf U m ∧ (x9 w i).s.R.length = w.s.R.length := by
 unfold x9
 split
 ·exact ⟨W.putR hi rfl rfl, n8⟩
 ·exact ⟨W, rfl⟩
theorem a8c {ss : List Sup} {i : Nat} {by_ : Int} (hi : i < w.s.R.length) (h : G0 ss w i by_ = .ok w') (W : w.wf U m) : w'.wf U (m + 2) ∧ w'.s.R.length = w.s.R.length := by
 unfold G0 at h
 split at h
 ·cases h
 ·rename_i st hst
  obtain ⟨w1, h1, h⟩ := T4 h
  obtain ⟨W1, l1⟩ := a4z h1 (W.putR (i := i) (r := { w.R i with state := st }) hi rfl rfl)
  have l1 : w1.s.R.length = w.s.R.length := by rw [l1, n8]
  have hi1 : i < w1.s.R.length := by omega
  obtain ⟨w2, h2, rfl⟩ := t7 h
  have h3 : w2.wf U (m + 2) ∧ w2.s.R.length = w1.s.R.length := by
   split at h2
   ·split at h2
    ·have := a4T (by rw [C4]; exact hi1) h2 (W1.release hi1)
     exact ⟨this.1.up (by omega), by rw [this.2, C4]⟩
    ·have := a4T (w := H8 w1 3 (w1.R i).num (w1.R i).res) hi1 h2 (W1.say _ _ _)
     exact ⟨this.1, by rw [this.2]; rfl⟩
   ·have := a4T hi1 h2 W1
    exact ⟨this.1.up (by omega), this.2⟩
  have h4 := a7c (i := i) (by omega) h3.1
  exact ⟨h4.1, by omega⟩
theorem b8Q (gs : List Int) (j : Nat) (v : Int) (k : Nat) : (gs.set j v).getD k 0 = if k = j ∧ j < gs.length then v else gs.getD k 0 := by
 simp only [l_s, List.getElem?_set]
 by_cases hk : j = k
 ·subst hk
  by_cases hj : j < gs.length
  ·simp [hj]
  ·simp [hj]
 ·simp [hk]
  intro h; exact absurd h.symm hk
theorem X4 {us gs : List Int} {j : Nat} {v : Int} (h : V5 us gs) (hv : btw v (-1) 4) : V5 us (gs.set j v) := by
 obtain ⟨h1, h2, h3⟩ := h
 refine ⟨h1, by rw [R9]; exact h2, fun k hk => ?_⟩
 obtain ⟨a, b, c⟩ := h3 k hk
 refine ⟨a, b, ?_⟩
 rw [b8Q]
 split
 ·exact hv
 ·exact c
theorem a3X {i : Nat} (hi : i < w.s.R.length) (W : w.wf U m) : ∀ j, (u6 U w i j).wf U m ∧ (u6 U w i j).s.R.length = w.s.R.length ∧ ((u6 U w i j).R i).us = (w.R i).us
 | 0 => ⟨W, rfl, rfl⟩
 | j + 1 => by
  obtain ⟨W1, l1, u1⟩ := a3X hi W j
  have hi1 : i < (u6 U w i j).s.R.length := by omega
  have h1 := W1.rr _ (C2 hi1)
  refine ⟨(W1.mv _ _).put ⟨X4 h1.1 ⟨by decide, by decide⟩, h1.2⟩, ?_, ?_⟩
  ·show (Wk.put _ _ _).s.R.length = _
   rw [n8]; exact l1
  ·show ((Wk.put _ _ _).R i).us = _
   rw [D4 (by exact hi1)]; exact u1
theorem b8h {ss : List Sup} {i : Nat} (hi : i < w.s.R.length) (h : a6p ss U w i = .ok w') (W : w.wf U m) : w'.wf U (m + 2) ∧ w'.s.R.length = w.s.R.length := by
 obtain ⟨W1, l1, _⟩ := a3X hi W (w.R i).us.length
 have := a8c (by omega) h W1
 exact ⟨this.1, by omega⟩
theorem b9S {ss : List Sup} {num : Int} (h : a1t ss U w num = .ok w') (W : w.wf U m) : w'.wf U (m + 2) ∧ w'.s.R.length = w.s.R.length := by
 unfold a1t at h
 split at h
 ·cases h
 ·rename_i r hr
  obtain ⟨i, _, hi, hil, rfl, _⟩ := Y6 hr
  rw [hi] at h
  split at h
  ·exact b8h hil h W
  ·split at h
   ·have := a3A h W
    exact ⟨this.1.up (by omega), this.2⟩
   ·cases h; exact ⟨W.up (by omega), rfl⟩
theorem a9w {α : Type} {f : Wk → α → Except Int Wk} {k : Nat} (hf : ∀ {m : Nat} {w w' : Wk} {x : α}, f w x = .ok w' → w.wf U m → w'.wf U (m + k) ∧ w'.s.R.length = w.s.R.length) :
  ∀ (l : List α) {m : Nat} {w w' : Wk}, M2 f w l = .ok w' → w.wf U m → w'.wf U (m + k * l.length) ∧ w'.s.R.length = w.s.R.length
 | [], m, w, w', h, W => by cases h; exact ⟨W, rfl⟩
 | x :: l, m, w, w', h, W => by
  obtain ⟨w1, h1, h2⟩ := T4 h
  have a := hf h1 W
  have b := a9w hf l h2 a.1
  refine ⟨b.1.up ?_, by omega⟩
  rw [l_f, Nat.mul_succ]; omega
theorem b3G {i : Nat} {sum : Int} {yes : Bool} (hi : i < w.s.R.length) (h : a0E w i sum yes = .ok w') (W : w.wf U m) : w'.wf U m ∧ w'.s.R.length = w.s.R.length := by
 unfold a0E at h
 split at h
 ·have h1 := a4z h (W.putR (i := i) (r := { w.R i with paid := w64 ((w.R i).paid + sum) }) hi rfl rfl)
  exact ⟨h1.1, by rw [h1.2, n8]⟩
 ·exact a9i hi h W
theorem a7o {ss : List Sup} {i : Nat} {yes : Bool} (hi : i < w.s.R.length) (h : H5 ss w i yes = .ok w') (W : w.wf U m) : w'.wf U (m + 1) ∧ w'.s.R.length = w.s.R.length := by
 unfold H5 at h
 simp only at h
 split at h
 ·split at h
  ·have W1 := (W.putR (i := i) (r := { w.R i with given := w64 ((w.R i).given + (s9 ss (w.R i).want).getD 0) }) hi rfl rfl)
   have h1 := a4z h (W1.mv _ _)
   exact ⟨h1.1.up (by omega), by rw [h1.2]; exact n8⟩
  ·cases h
 ·have := a4T (by rw [C4]; exact hi) h (W.release hi)
  exact ⟨this.1, by rw [this.2, C4]⟩
end
end
end Go.Proofs.YtjagmebglhbdkaaGreat.MX
