import Derived.Test.YtcgbhcgfdcfmaaaGreatK25
import Derived.Test.YtcgbhcgfdcfmaaaGreatK20
import Derived.Test.YtcgbhcgfdcfmaaaGreatK16
namespace Go.Proofs.YtcgbhcgfdcfmaaaGreat.MX
open Go Go.Proofs
set_option linter.unusedSimpArgs false
set_option linter.unusedVariables false
structure Wk where
 s : Sag
 sd : List Msg
structure Cmd where
 kind : Int
 ord : Int
 us : List Int
 rea : Int
 want : Int
 cred : Bool
 rma : Int
 unit : Int
 grade : Int
 days : Int
 key : Int
 yes : Bool
abbrev w64 (n : Int) : Int := IntKind.i64.wrap n
def I3 (a b : Int) : Prop := a = 0 ∧ b = 1 ∨ a = 1 ∧ (b = 2 ∨ b = 6) ∨ a = 2 ∧ (b = 3 ∨ b = 4 ∨ b = 5 ∨ b = 8) ∨ a = 3 ∧ b = 7 ∨ a = 7 ∧ (b = 3 ∨ b = 8) ∨ a = 8 ∧ (b = 0 ∨ b = 6)
instance (a b : Int) : Decidable (I3 a b) := by unfold I3; exact inferInstance
def b0j (u : KU) (to : Int) : KU := ⟨to, u.sku, u.recv || decide (to = 2), u.grad || decide (u.place = 2)⟩
def KU0 : KU := ⟨0, 0, false, false⟩
def E2 (K : List KU) (n to : Int) : Int := if 0 ≤ n ∧ n < K.length then (if I3 (j1 K n) to then 0 else 8) else 7
def B9 (K : List KU) (n to : Int) : List KU := if E2 K n to = 0 then K.set n.toNat (b0j (K.getD n.toNat KU0) to) else K
def a3p (K : List KU) (sku : Int) : Option Nat := K.findIdx? fun u => decide (u.place = 3 ∧ u.sku = sku)
def J6 (st by_ : Int) : Option Int :=
 if by_ = 1 ∧ st = 1 then some 2 else if by_ = 2 ∧ st = 2 then some 3 else if by_ = 3 ∧ st = 3 then some 4 else if by_ = 4 ∧ st = 4 ∨ by_ = 5 ∧ st = 3 then some 5
 else if by_ = 6 ∧ st = 5 then some 6 else if (by_ = 7 ∨ by_ = 8 ∨ by_ = 9) ∧ (st = 1 ∨ st = 2) then some by_ else none
def Led.get (l : Led) (n : Int) : Int := if n = 0 then l.a else if n = 1 then l.b else if n = 2 then l.c else if n = 3 then l.d else l.e
def Led.put (l : Led) (n v : Int) : Led := if n = 0 then { l with a := v } else if n = 1 then { l with b := v } else if n = 2 then { l with c := v } else if n = 3 then { l with d := v } else { l with e := v }
def okC (n : Int) : Prop := -1125899906842624 ≤ n ∧ n ≤ 1125899906842624
instance (n : Int) : Decidable (okC n) := by unfold okC; exact inferInstance
def Z3 (l : Led) (a b sum : Int) : Except Int Led :=
 if sum < 0 then .error 1 else if okC (l.get a) ∧ okC (l.get b) ∧ okC sum ∧ okC (l.get a - sum) ∧ okC (l.get b + sum) then .ok ((l.put a (l.get a - sum)).put b (l.get b + sum)) else .error 9
def Sag.at_ (s : Sag) (n : Int) : Option Ret := if 1 ≤ n then s.R[(n - 1).toNat]? else none
def Wk.R (w : Wk) (i : Nat) : Ret := w.s.R.getD i Ret.zero
def Wk.put (w : Wk) (i : Nat) (r : Ret) : Wk := { w with s := { w.s with R := w.s.R.set i r } }
def Wk.led (w : Wk) (l : Led) : Wk := { w with s := { w.s with led := l } }
def Wk.mv (w : Wk) (n to : Int) : Wk := { w with s := { w.s with K := B9 w.s.K n to } }
def H6 (w : Wk) (kind num value : Int) : Wk :=
 ⟨{ w.s with key := w.s.key + 1, O := w.s.O ++ [⟨w.s.key, kind, num, value, 1, w.s.now + 1⟩] }, w.sd ++ [⟨w.s.key, kind, num, value, 1, w.s.now + 1⟩]⟩
def l8 (w : Wk) (i : Nat) : Wk := if 0 ≤ (w.R i).res then (w.mv (w.R i).res 3).put i { w.R i with res := -1 } else w
def dropL (O : List Msg) (num : Int) : List Msg := O.filter fun m => !decide (m.rma = num ∧ m.kind = 1)
def J8 (w : Wk) (num by_ : Int) : Except Int Wk :=
 match w.s.at_ num with
 | none => .error 7
 | some r => match J6 r.state by_ with
  | none => .error 8
  | some st =>
   let w2 := l8 (w.put (num - 1).toNat { r with state := st }) (num - 1).toNat
   .ok { w2 with s := { w2.s with T := without w2.s.T num, O := dropL w2.s.O num } }
def H0 (w : Wk) (num by_ : Int) : Except Int Wk :=
 match w.s.at_ num with
 | none => .error 7
 | some r => match J6 r.state by_ with
  | none => .error 8
  | some st => .ok (w.put (num - 1).toNat { r with state := st })
def C9 (w : Wk) (us : List Int) (to : Int) : Wk := us.foldl (fun w u => w.mv u to) w
def b1v (w : Wk) (num d : Int) : Wk := { w with s := { w.s with T := setT w.s.T num d } }
def a7H (w : Wk) (num : Int) : Wk := { w with s := { w.s with T := without w.s.T num } }
def a4f (w : Wk) (num : Int) : Except Int Wk :=
 (H0 w num 2).bind fun w1 => let w2 := C9 w1 (w1.R (num - 1).toNat).us 1; .ok (b1v w2 num (w2.s.now + 30))
def Q3 (w : Wk) (num : Int) : Except Int Wk :=
 (H0 w num 3).bind fun w1 => let w2 := C9 w1 (w1.R (num - 1).toNat).us 2; .ok (a7H w2 num)
def L9 (w : Wk) (a b sum : Int) : Except Int Wk := (Z3 w.s.led a b sum).map w.led
def S8 (w : Wk) (i : Nat) (sum : Int) : Except Int Wk := L9 (w.put i { w.R i with credd := w64 ((w.R i).credd + sum) }) 1 3 sum
def M6 (w : Wk) (i : Nat) (sum : Int) : Except Int Wk := if sum = 0 then .ok w else if (w.R i).cred = true then S8 w i sum else .ok (H6 w 2 (w.R i).num sum)
def A5 (w : Wk) (i : Nat) : Wk := if (w.R i).state = 5 ∧ n8 (w.R i).num w.s.O = 0 then w.put i { w.R i with state := 6 } else w
def D6 (ss : List Sup) (w : Wk) (i : Nat) (by_ : Int) : Except Int Wk :=
 match J6 (w.R i).state by_ with
 | none => .error 8
 | some st =>
  (L9 (w.put i { w.R i with state := st }) 0 1 (w.R i).worth).bind fun w1 =>
   let price := (u4 ss (w1.R i).want).getD 0
   (if 0 ≤ (w1.R i).res then (if (w1.R i).worth < price then M6 (l8 w1 i) i (w1.R i).worth else M6 (H6 w1 3 (w1.R i).num (w1.R i).res) i (w64 ((w1.R i).worth - price))) else M6 w1 i (w1.R i).worth).map fun w2 => A5 w2 i
def B0 (U : List Unt) (w : Wk) (i : Nat) : Nat → Wk
 | 0 => w
 | j + 1 =>
  let w1 := B0 U w i j
  let u := (w1.R i).us.getD j 0
  (w1.mv u 6).put i { w1.R i with gs := (w1.R i).gs.set j 4, worth := w64 ((w1.R i).worth + (l7 U u).share) }
def a5w (ss : List Sup) (U : List Unt) (w : Wk) (i : Nat) : Except Int Wk := D6 ss (B0 U w i (w.R i).us.length) i 5
def a1o (ss : List Sup) (U : List Unt) (w : Wk) (num : Int) : Except Int Wk :=
 match w.s.at_ num with
 | none => .error 7
 | some r => if r.state = 3 then a5w ss U w (num - 1).toNat else if r.state = 1 ∨ r.state = 2 then J8 w num 8 else .ok w
def H7 {α : Type} (f : Wk → α → Except Int Wk) : Wk → List α → Except Int Wk
 | w, [] => .ok w
 | w, x :: l => (f w x).bind fun w1 => H7 f w1 l
def a1Y (ss : List Sup) (U : List Unt) (w : Wk) (days : Int) : Except Int (Wk × List Msg) :=
 if days < 1 ∨ 1000 < days then .error 1 else if 100000 < w.s.now + days then .error 2 else
  let now := w.s.now + days
  (H7 (a1o ss U) { w with s := { w.s with now := now, T := V4 w.s.T now } } ((a0J w.s.T now).map Tm.num)).bind fun w1 =>
   (H7 (fun w (m : Msg) => J8 w m.rma 8) { w1 with s := { w1.s with O := E5 now w1.s.O } } (A6 now w1.s.O)).map fun w2 => (w2, I9 now w1.s.O)
def Z8 (w : Wk) (i : Nat) (sum : Int) (yes : Bool) : Except Int Wk :=
 if yes = true then L9 (w.put i { w.R i with paid := w64 ((w.R i).paid + sum) }) 1 2 sum else S8 w i sum
def E7 (ss : List Sup) (w : Wk) (i : Nat) (yes : Bool) : Except Int Wk :=
 let price := (u4 ss (w.R i).want).getD 0
 if yes = true then
  let w1 := w.put i { w.R i with given := w64 ((w.R i).given + price) }
  if E2 w1.s.K (w1.R i).res 8 = 0 then L9 (w1.mv (w1.R i).res 8) 1 4 price else .error (E2 w1.s.K (w1.R i).res 8)
 else M6 (l8 w i) i price
def G4 (yes : Bool) : Int := if yes = true then 0 else 6
def a0y (ss : List Sup) (w : Wk) (key : Int) (yes : Bool) : Except Int Wk :=
 match w.s.O.findIdx? fun m => decide (m.key = key) with
 | none => .error 16
 | some j =>
  let m := w.s.O.getD j Msg.zero
  let w1 : Wk := { w with s := { w.s with O := w.s.O.take j ++ w.s.O.drop (j + 1) } }
  match w1.s.at_ m.rma with
  | none => .error 7
  | some _ =>
   let i := (m.rma - 1).toNat
   if m.kind = 1 ∧ yes = false then J8 w1 m.rma 8 else
    (if m.kind = 1 then H0 w1 m.rma 1 else if m.kind = 2 then Z8 w1 i m.value yes else if m.kind = 3 then E7 ss w1 i yes
     else if E2 w1.s.K m.value (G4 yes) = 0 then .ok (w1.mv m.value (G4 yes)) else .error (E2 w1.s.K m.value (G4 yes))).map fun w2 => A5 w2 i
noncomputable def O5 (r : Ret) (unit grade : Int) : Except Int Nat := if dcd (r.right ∧ btw grade 0 4) = false then .error 1 else match r.us.findIdx? fun u => decide (u = unit) with
 | none => .error 7
 | some j => if r.gs.getD j 0 ≠ -1 then .error 8 else .ok j
noncomputable def a0C (ps : List Pol) (ss : List Sup) (U : List Unt) (w : Wk) (c : Cmd) (i j : Nat) : Except Int Wk :=
 let r := w.R i
 let x := l7 U c.unit
 let p := B2 ps x.cat
 let w1 := w.put i { r with gs := r.gs.set j c.grade, worth := w64 (r.worth + wrt p x.share r.rea c.grade) }
 let w2 := if p.gto c.grade ≠ 0 then w1.mv c.unit (p.gto c.grade) else H6 (w1.mv c.unit 8) 4 r.num c.unit
 if (w2.R i).gs.contains (-1) = true then .ok w2 else D6 ss w2 i 4
noncomputable def V0 (ps : List Pol) (ss : List Sup) (U : List Unt) (w : Wk) (c : Cmd) : Except Int Wk :=
 match w.s.at_ c.rma with
 | none => .error 7
 | some r => if r.state ≠ 4 then .error 8 else match O5 r c.unit c.grade with
  | .error e => .error e
  | .ok j => if c.grade = 4 then .error 1 else a0C ps ss U w c (c.rma - 1).toNat j
def a0I (s : Sag) (u : Int) : Int := ((s.R.find? fun r => !decide (6 ≤ r.state ∧ r.state ≤ 9) && r.us.contains u).map Ret.num).getD 0
def b8n (p : Pol) (days : Int) (wants : Bool) : Int := if p.fin = true ∨ p.exc = true ∧ wants = false then 12 else if days < 0 ∨ p.w < days then 11 else 0
def I5 (U : List Unt) (c : Cmd) (i : Nat) : Prop := (0 < i → c.us.getD (i - 1) 0 < c.us.getD i 0) ∧ 0 ≤ c.us.getD i 0 ∧ c.us.getD i 0 < U.length ∧ (l7 U (c.us.getD i 0)).ord = c.ord
def S7 (ps : List Pol) (os : List Odr) (U : List Unt) (s : Sag) (c : Cmd) (u : Int) : Int :=
 if j1 s.K u ≠ 0 ∨ 0 < a0I s u then 13 else b8n (B2 ps (l7 U u).cat) (s.now - ((os[c.ord.toNat]?).map Odr.day).getD 0) (decide (0 < c.want))
def Y4 {α : Type} (f : α → Int) : List α → Int
 | [] => 0
 | x :: l => if f x = 0 then Y4 f l else f x
noncomputable def a0v (ps : List Pol) (os : List Odr) (U : List Unt) (s : Sag) (c : Cmd) : Int :=
 if dcd (∀ i, i < c.us.length → I5 U c i) = false then 1 else if c.rea < 0 ∨ 4 ≤ c.rea ∨ 1000 < c.want then 1 else Y4 (S7 ps os U s c) c.us
def a0G (ss : List Sup) (w : Wk) (sku : Int) : Except Int (Int × Wk) :=
 if sku = 0 then .ok (-1, w) else match u4 ss sku with
 | none => .error 14
 | some _ => match a3p w.s.K sku with
  | none => .error 14
  | some j => .ok ((j : Int), { w with s := { w.s with K := w.s.K.set j { w.s.K.getD j KU0 with place := 7 } } })
noncomputable def Q7 (ps : List Pol) (os : List Odr) (ss : List Sup) (U : List Unt) (w : Wk) (c : Cmd) : Except Int (Int × Wk) :=
 if 100 ≤ w.s.R.length then .error 15 else if c.ord < 0 ∨ (os.length : Int) ≤ c.ord then .error 7 else
  if a0v ps os U w.s c ≠ 0 then .error (a0v ps os U w.s c) else
   (a0G ss w c.want).map fun x =>
    let num : Int := w.s.R.length + 1
    let r : Ret := ⟨num, c.ord, c.rea, c.want, x.1, c.cred || c.us.any fun u => (B2 ps (l7 U u).cat).cre, 1, w.s.now, c.us, c.us.map fun _ => -1, 0, 0, 0, 0⟩
    (num, H6 { x.2 with s := { x.2.s with R := w.s.R ++ [r], T := setT x.2.s.T num (w.s.now + 14) } } 1 num 0)
noncomputable def doP (D : Cfg) (U : List Unt) (w : Wk) (c : Cmd) : Except Int (Int × List Msg × Wk) :=
 if c.kind = 1 then (Q7 D.ps D.os D.ss U w c).map fun x => (x.1, [], x.2)
 else if c.kind = 2 then (J8 w c.rma 9).map fun x => (0, [], x)
 else if c.kind = 3 then (J8 w c.rma 7).map fun x => (0, [], x)
 else if c.kind = 4 then (a4f w c.rma).map fun x => (0, [], x)
 else if c.kind = 5 then (Q3 w c.rma).map fun x => (0, [], x)
 else if c.kind = 6 then (V0 D.ps D.ss U w c).map fun x => (0, [], x)
 else if c.kind = 7 then (a1Y D.ss U w c.days).map fun x => (0, x.2, x.1)
 else (a0y D.ss w c.key c.yes).map fun x => (0, [], x)
def Cmd.bare (c : Cmd) : Cmd := if c.kind = 1 then { c with ord := 0, us := [], rea := 0, want := 0, cred := false } else if 2 ≤ c.kind ∧ c.kind ≤ 5 then { c with rma := 0 } else if c.kind = 6 then { c with rma := 0, unit := 0, grade := 0 } else if c.kind = 7 then { c with days := 0 } else if c.kind = 8 then { c with key := 0, yes := false } else c
def Cmd.nought (c : Cmd) : Prop := c.ord = 0 ∧ c.us = [] ∧ c.rea = 0 ∧ c.want = 0 ∧ c.cred = false ∧ c.rma = 0 ∧ c.unit = 0 ∧ c.grade = 0 ∧ c.days = 0 ∧ c.key = 0 ∧ c.yes = false
def Cmd.fits (c : Cmd) : Prop :=
 if c.kind = 1 then (1 ≤ c.us.length ∧ c.us.length ≤ 60) ∧ btw c.ord 0 255 ∧ btw c.rea 0 255 ∧ btw c.want 0 65535 ∧ ∀ u ∈ c.us, btw u 0 255
 else if 2 ≤ c.kind ∧ c.kind ≤ 5 then btw c.rma 0 65535 else if c.kind = 6 then btw c.rma 0 65535 ∧ btw c.unit 0 255 ∧ btw c.grade 0 255 else if c.kind = 7 then btw c.days 0 65535 else if c.kind = 8 then btw c.key 0 4294967295 else False
def Cmd.formed (c : Cmd) : Prop := c.fits ∧ c.bare.nought
noncomputable def U7 (D : Cfg) (U : List Unt) (s : Sag) (c : Cmd) : Int × List Msg × Int × Sag :=
 if dcd c.formed = false then (0, [], 1, s) else match doP D U ⟨s, []⟩ c with
 | .error e => (0, [], e, s)
 | .ok x => (x.1, x.2.2.sd ++ x.2.1, 0, x.2.2.s)
section
set_option maxHeartbeats 4000000
section
variable {h0 h : c9} {l : List HP} {t : Nat} {L : List Tm}
end
end
theorem b7T (W : List Tm) (x : Tm) : b2J W x = (W.takeWhile fun y => decide (u9 y x)) ++ x :: W.dropWhile fun y => decide (u9 y x) := by
 have h1 : W.take (a5T W x) = W.takeWhile fun y => decide (u9 y x) := (List.prefix_iff_eq_take.1 (List.takeWhile_prefix _)).symm
 have h2 : W.drop (a5T W x) = W.dropWhile fun y => decide (u9 y x) := by
  have h3 : (W.takeWhile fun y => decide (u9 y x)) ++ (W.dropWhile fun y => decide (u9 y x)) = W := List.takeWhile_append_dropWhile
  conv => lhs; rw [← h3]
  unfold a5T
  rw [h3]
  conv => lhs; arg 2; rw [← h3]
  rw [List.drop_left]
 unfold b2J
 rw [h1, h2]
theorem b0h {W : List Tm} {x y : Tm} (hy : y ∈ W.takeWhile fun y => decide (u9 y x)) : u9 y x := by
 have := List.all_takeWhile (p := fun y => decide (u9 y x)) (l := W)
 rw [List.all_eq_true] at this
 simpa using this y hy
theorem b6L {W : List Tm} (hs : W.Pairwise u9) {x y : Tm} (hy : y ∈ W.dropWhile fun y => decide (u9 y x)) : ¬ u9 y x := by
 induction W with
 | nil => simp at hy
 | cons a W ih =>
  rw [List.dropWhile_cons] at hy
  by_cases ha : u9 a x
  ·rw [if_pos (by simpa using ha)] at hy
   exact ih (List.pairwise_cons.1 hs).2 hy
  ·rw [if_neg (by simpa using ha)] at hy
   rcases List.mem_cons.1 hy with rfl | hy
   ·exact ha
   ·exact fun h => ha (a0B ((List.pairwise_cons.1 hs).1 y hy) h)
theorem a8C {x y : Tm} (h1 : ¬ u9 y x) (h2 : y.num ≠ x.num) : u9 x y := by
 unfold u9 at *
 omega
theorem b6X {W : List Tm} {x : Tm} (hg : W8 W) (hx : ∀ y ∈ W, y.num ≠ x.num) : W8 (b2J W x) := by
 rw [b7T]
 have hsub1 : ∀ y ∈ W.takeWhile (fun y => decide (u9 y x)), y ∈ W := fun y hy => (List.takeWhile_sublist _).subset hy
 have hsub2 : ∀ y ∈ W.dropWhile (fun y => decide (u9 y x)), y ∈ W := fun y hy => (List.dropWhile_sublist _).subset hy
 have hW : (W.takeWhile fun y => decide (u9 y x)) ++ (W.dropWhile fun y => decide (u9 y x)) = W := List.takeWhile_append_dropWhile
 constructor
 ·have h1 := hg.1
  rw [← hW, a1u] at h1
  rw [a1u, List.pairwise_cons]
  refine ⟨h1.1, ⟨fun y hy => a8C (b6L hg.1 hy) (hx y (hsub2 y hy)), h1.2.1⟩, fun a ha b hb => ?_⟩
  rcases List.mem_cons.1 hb with rfl | hb
  ·exact b0h ha
  ·exact h1.2.2 a ha b hb
 ·have h1 := hg.2
  rw [← hW, a1u] at h1
  rw [a1u, List.pairwise_cons]
  refine ⟨h1.1, ⟨fun y hy => (hx y (hsub2 y hy)).symm, h1.2.1⟩, fun a ha b hb => ?_⟩
  rcases List.mem_cons.1 hb with rfl | hb
  ·exact hx a (hsub1 a ha)
  ·exact h1.2.2 a ha b hb
theorem a9y {L M : List Tm} (hg : W8 L) (hs : M.Sublist L) : W8 M := ⟨hg.1.sublist hs, hg.2.sublist hs⟩
theorem a0L {L : List Tm} (hg : W8 L) (n : Int) : W8 (without L n) := a9y hg List.filter_sublist
theorem b3c {L : List Tm} (hg : W8 L) (d : Int) : W8 (V4 L d) := a9y hg (List.dropWhile_sublist _)
theorem L8 {L : List Tm} {n : Int} {y : Tm} (hy : y ∈ without L n) : y ∈ L ∧ y.num ≠ n := by
 unfold without at hy
 rw [List.mem_filter] at hy
 exact ⟨hy.1, by simpa [a0O] using hy.2⟩
theorem a8y {L : List Tm} (hg : W8 L) (n d : Int) : W8 (setT L n d) := b6X (a0L hg n) fun y hy => (L8 hy).2
section
structure Stc (D : Cfg) (U : List Unt) : Prop where
 cfg : C8 D
 sh : b3g U
 cat : ∀ u ∈ U, 0 ≤ u.cat
 ul : U.length ≤ 200
structure Wk.wf (U : List Unt) (m : Nat) (w : Wk) : Prop where
 kl : w.s.K.length = U.length
 rl : w.s.R.length ≤ 100
 rr : ∀ r ∈ w.s.R, K2 r.us r.gs ∧ ∀ v ∈ r.us, v < U.length
 tg : W8 w.s.T
 tn : ∀ x ∈ w.s.T, 1 ≤ x.num ∧ x.num ≤ w.s.R.length
 ol : w.s.O.length ≤ 70000 + m
 ot : ∀ x ∈ w.s.O, 0 ≤ x.tries ∧ x.tries ≤ 70000 + m
 key : 1 ≤ w.s.key ∧ w.s.key ≤ 8589934592 + m
 sl : w.sd.length ≤ m
 now : 0 ≤ w.s.now ∧ w.s.now ≤ 100000
theorem b0P : ∀ (n : Nat) (L : List Int), L.Nodup → (∀ x ∈ L, 1 ≤ x ∧ x ≤ n) → L.length ≤ n
 | 0, [], _, _ => v8 _
 | 0, x :: L, _, h => by have := h x (by simp); omega
 | n + 1, L, hn, h => by
  have h1 := b0P n (L.erase ((n + 1 : Nat) : Int)) (hn.erase _) (fun x hx => by
   have hm := List.mem_of_mem_erase hx
   have hne : x ≠ ((n + 1 : Nat) : Int) := fun e => by
    rw [e] at hx
    exact (List.Nodup.not_mem_erase hn) hx
   have := h x hm
   omega)
  have h2 := List.length_erase (a := ((n + 1 : Nat) : Int)) (l := L)
  split at h2 <;> omega
section
variable {U : List Unt} {m : Nat} {w w' : Wk}
theorem Wk.wf.tl (W : w.wf U m) : w.s.T.length ≤ 100 := by
 have h := b0P w.s.R.length (w.s.T.map Tm.num) (by
  rw [List.Nodup, List.pairwise_map]
  exact W.tg.2) (by
  intro x hx
  obtain ⟨y, hy, rfl⟩ := List.mem_map.1 hx
  exact W.tn y hy)
 rw [l_z] at h
 exact U3 h W.rl
theorem Wk.wf.up (W : w.wf U m) {m' : Nat} (h : m ≤ m') : w.wf U m' :=
 ⟨W.kl, W.rl, W.rr, W.tg, W.tn, by have := W.ol; omega, fun x hx => by have := W.ot x hx; omega, by have := W.key; omega, by have := W.sl; omega, W.now⟩
theorem Wk.wf.len (W : w.wf U m) : ∀ r ∈ w.s.R, r.us.length ≤ 200 ∧ r.gs.length = r.us.length := fun r hr => by
 have h := (W.rr r hr).1
 have h1 := h.1.2
 exact ⟨by omega, h.2.1⟩
theorem E3 {i : Nat} (hi : i < w.s.R.length) : w.R i ∈ w.s.R := by
 unfold Wk.R
 rw [l_s, l_r hi]
 exact l_v hi
theorem I8 {i : Nat} {r : Ret} (hi : i < w.s.R.length) : (w.put i r).R i = r := by
 unfold Wk.R Wk.put
 simp [hi]
theorem v9 {i : Nat} {r : Ret} : (w.put i r).s.R.length = w.s.R.length := by simp [Wk.put]
theorem Wk.wf.put (W : w.wf U m) {i : Nat} {r : Ret} (h : K2 r.us r.gs ∧ ∀ v ∈ r.us, v < U.length) : (w.put i r).wf U m :=
 ⟨W.kl, by rw [v9]; exact W.rl, fun x hx => by
  rcases List.mem_or_eq_of_mem_set hx with hx | hx
  ·exact W.rr x hx
  ·rw [hx]; exact h, W.tg, fun x hx => by have := W.tn x hx; rw [v9]; exact this, W.ol, W.ot, W.key, W.sl, W.now⟩
theorem Wk.wf.putR (W : w.wf U m) {i : Nat} {r : Ret} (hi : i < w.s.R.length) (h1 : r.us = (w.R i).us) (h2 : r.gs = (w.R i).gs) : (w.put i r).wf U m :=
 W.put (by rw [h1, h2]; exact W.rr _ (E3 hi))
theorem I6 (K : List KU) (n to : Int) : (B9 K n to).length = K.length := by
 unfold B9
 split <;> simp
theorem Wk.wf.mv (W : w.wf U m) (n to : Int) : (w.mv n to).wf U m :=
 ⟨by rw [← W.kl]; exact I6 _ _ _, W.rl, W.rr, W.tg, W.tn, W.ol, W.ot, W.key, W.sl, W.now⟩
theorem Wk.wf.led (W : w.wf U m) (l : Led) : (w.led l).wf U m := ⟨W.kl, W.rl, W.rr, W.tg, W.tn, W.ol, W.ot, W.key, W.sl, W.now⟩
theorem Wk.wf.say (W : w.wf U m) (k n v : Int) : (H6 w k n v).wf U (m + 1) :=
 ⟨W.kl, W.rl, W.rr, W.tg, W.tn, by have := W.ol; simp only [H6, l_m, l_f, l_g]; omega, fun x hx => by
  rcases List.mem_append.1 hx with hx | hx
  ·have := W.ot x hx; omega
  ·rw [Q9] at hx; rw [hx]; exact ⟨by show (0 : Int) ≤ 1; decide, by show (1 : Int) ≤ _; omega⟩, by have := W.key; simp only [H6]; omega, by have := W.sl; simp only [H6, l_m, l_f, l_g]; omega, W.now⟩
theorem D8 (w : Wk) (i : Nat) : (l8 w i).s.R.length = w.s.R.length := by
 unfold l8
 split
 ·rw [v9]; rfl
 ·rfl
theorem Wk.wf.release (W : w.wf U m) {i : Nat} (hi : i < w.s.R.length) : (l8 w i).wf U m := by
 unfold l8
 split
 ·exact (W.mv _ _).putR hi rfl rfl
 ·exact W
theorem Wk.wf.without (W : w.wf U m) (n : Int) (O : List Msg) (hO : O.Sublist w.s.O) : Wk.wf U m { w with s := { w.s with T := without w.s.T n, O := O } } :=
 ⟨W.kl, W.rl, W.rr, a0L W.tg n, fun x hx => W.tn x (L8 hx).1, U3 hO.length_le W.ol, fun x hx => W.ot x (hO.subset hx), W.key, W.sl, W.now⟩
theorem S6 {n : Int} {r : Ret} (h : w.s.at_ n = some r) : ∃ i : Nat, n = (i : Int) + 1 ∧ (n - 1).toNat = i ∧ i < w.s.R.length ∧ w.R i = r ∧ w.s.R[i]? = some r := by
 unfold Sag.at_ at h
 split at h
 ·rename_i h1
  have hlt : (n - 1).toNat < w.s.R.length := by
   by_cases hl : (n - 1).toNat < w.s.R.length
   ·exact hl
   ·rw [a3b (by omega)] at h; cases h
  refine ⟨(n - 1).toNat, by omega, rfl, hlt, ?_, h⟩
  unfold Wk.R
  rw [l_s, h]
  rfl
 ·cases h
theorem a1G {α β : Type} {x : Except Int α} {f : α → Except Int β} {y : β} (h : x.bind f = .ok y) : ∃ z, x = .ok z ∧ f z = .ok y := by
 cases x with
 | error e => cases h
 | ok z => exact ⟨z, rfl, h⟩
theorem x8 {α β : Type} {x : Except Int α} {f : α → β} {y : β} (h : x.map f = .ok y) : ∃ z, x = .ok z ∧ f z = y := by
 cases x with
 | error e => cases h
 | ok z => exact ⟨z, rfl, by cases h; rfl⟩
theorem a2p {num by_ : Int} (h : J8 w num by_ = .ok w') (W : w.wf U m) : w'.wf U m ∧ w'.s.R.length = w.s.R.length := by
 unfold J8 at h
 split at h
 ·cases h
 ·rename_i r hr
  obtain ⟨i, _, hi, hil, rfl, _⟩ := S6 hr
  rw [hi] at h
  split at h
  ·cases h
  ·rename_i st hst
   cases h
   have h1 : (l8 (w.put i { w.R i with state := st }) i).s.R.length = w.s.R.length := by rw [D8, v9]
   have W1 := (W.putR (i := i) (r := { w.R i with state := st }) hil rfl rfl).release (i := i) (by rw [v9]; exact hil)
   exact ⟨W1.without num _ List.filter_sublist, h1⟩
theorem a1A {num by_ : Int} (h : H0 w num by_ = .ok w') (W : w.wf U m) : w'.wf U m ∧ w'.s.R.length = w.s.R.length ∧ ∃ i : Nat, num = (i : Int) + 1 ∧ (num - 1).toNat = i ∧ i < w.s.R.length ∧ (w'.R i).us = (w.R i).us ∧ (w'.R i).gs = (w.R i).gs := by
 unfold H0 at h
 split at h
 ·cases h
 ·rename_i r hr
  obtain ⟨i, hn, hi, hil, rfl, _⟩ := S6 hr
  rw [hi] at h
  split at h
  ·cases h
  ·rename_i st hst
   cases h
   exact ⟨W.putR hil rfl rfl, v9, i, hn, hi, hil, by rw [I8 hil], by rw [I8 hil]⟩
theorem a2T (us : List Int) (to : Int) : ∀ {w : Wk}, w.wf U m → (C9 w us to).wf U m ∧ (C9 w us to).s.R = w.s.R := by
 induction us with
 | nil => intro w W; exact ⟨W, rfl⟩
 | cons u us ih =>
  intro w W
  have := ih (W.mv u to)
  exact ⟨this.1, this.2⟩
theorem a3i {a b sum : Int} (h : L9 w a b sum = .ok w') (W : w.wf U m) : w'.wf U m ∧ w'.s.R = w.s.R := by
 obtain ⟨l, _, rfl⟩ := x8 h
 exact ⟨W.led l, rfl⟩
theorem a6R {i : Nat} {sum : Int} (hi : i < w.s.R.length) (h : S8 w i sum = .ok w') (W : w.wf U m) : w'.wf U m ∧ w'.s.R.length = w.s.R.length := by
 have h1 := a3i h (W.putR (i := i) (r := { w.R i with credd := w64 ((w.R i).credd + sum) }) hi rfl rfl)
 exact ⟨h1.1, by rw [h1.2, v9]⟩
theorem a3w {i : Nat} {sum : Int} (hi : i < w.s.R.length) (h : M6 w i sum = .ok w') (W : w.wf U m) : w'.wf U (m + 1) ∧ w'.s.R.length = w.s.R.length := by
 unfold M6 at h
 split at h
 ·cases h; exact ⟨W.up (by omega), rfl⟩
 ·split at h
  ·have := a6R hi h W
   exact ⟨this.1.up (by omega), this.2⟩
  ·cases h; exact ⟨W.say _ _ _, rfl⟩
theorem a5k {i : Nat} (hi : i < w.s.R.length) (W : w.wf U m) : (A5 w i).wf U m ∧ (A5 w i).s.R.length = w.s.R.length := by
 unfold A5
 split
 ·exact ⟨W.putR hi rfl rfl, v9⟩
 ·exact ⟨W, rfl⟩
theorem a6s {ss : List Sup} {i : Nat} {by_ : Int} (hi : i < w.s.R.length) (h : D6 ss w i by_ = .ok w') (W : w.wf U m) : w'.wf U (m + 2) ∧ w'.s.R.length = w.s.R.length := by
 unfold D6 at h
 split at h
 ·cases h
 ·rename_i st hst
  obtain ⟨w1, h1, h⟩ := a1G h
  obtain ⟨W1, l1⟩ := a3i h1 (W.putR (i := i) (r := { w.R i with state := st }) hi rfl rfl)
  have l1 : w1.s.R.length = w.s.R.length := by rw [l1, v9]
  have hi1 : i < w1.s.R.length := by omega
  obtain ⟨w2, h2, rfl⟩ := x8 h
  have h3 : w2.wf U (m + 2) ∧ w2.s.R.length = w1.s.R.length := by
   split at h2
   ·split at h2
    ·have := a3w (by rw [D8]; exact hi1) h2 (W1.release hi1)
     exact ⟨this.1.up (by omega), by rw [this.2, D8]⟩
    ·have := a3w (w := H6 w1 3 (w1.R i).num (w1.R i).res) hi1 h2 (W1.say _ _ _)
     exact ⟨this.1, by rw [this.2]; rfl⟩
   ·have := a3w hi1 h2 W1
    exact ⟨this.1.up (by omega), this.2⟩
  have h4 := a5k (i := i) (by omega) h3.1
  exact ⟨h4.1, by omega⟩
theorem b6T (gs : List Int) (j : Nat) (v : Int) (k : Nat) : (gs.set j v).getD k 0 = if k = j ∧ j < gs.length then v else gs.getD k 0 := by
 simp only [l_s, List.getElem?_set]
 by_cases hk : j = k
 ·subst hk
  by_cases hj : j < gs.length
  ·simp [hj]
  ·simp [hj]
 ·simp [hk]
  intro h; exact absurd h.symm hk
theorem W6 {us gs : List Int} {j : Nat} {v : Int} (h : K2 us gs) (hv : btw v (-1) 4) : K2 us (gs.set j v) := by
 obtain ⟨h1, h2, h3⟩ := h
 refine ⟨h1, by rw [P0]; exact h2, fun k hk => ?_⟩
 obtain ⟨a, b, c⟩ := h3 k hk
 refine ⟨a, b, ?_⟩
 rw [b6T]
 split
 ·exact hv
 ·exact c
theorem a4D {i : Nat} (hi : i < w.s.R.length) (W : w.wf U m) : ∀ j, (B0 U w i j).wf U m ∧ (B0 U w i j).s.R.length = w.s.R.length ∧ ((B0 U w i j).R i).us = (w.R i).us
 | 0 => ⟨W, rfl, rfl⟩
 | j + 1 => by
  obtain ⟨W1, l1, u1⟩ := a4D hi W j
  have hi1 : i < (B0 U w i j).s.R.length := by omega
  have h1 := W1.rr _ (E3 hi1)
  refine ⟨(W1.mv _ _).put ⟨W6 h1.1 ⟨by decide, by decide⟩, h1.2⟩, ?_, ?_⟩
  ·show (Wk.put _ _ _).s.R.length = _
   rw [v9]; exact l1
  ·show ((Wk.put _ _ _).R i).us = _
   rw [I8 (by exact hi1)]; exact u1
theorem b5m {ss : List Sup} {i : Nat} (hi : i < w.s.R.length) (h : a5w ss U w i = .ok w') (W : w.wf U m) : w'.wf U (m + 2) ∧ w'.s.R.length = w.s.R.length := by
 obtain ⟨W1, l1, _⟩ := a4D hi W (w.R i).us.length
 have := a6s (by omega) h W1
 exact ⟨this.1, by omega⟩
theorem b4c {ss : List Sup} {num : Int} (h : a1o ss U w num = .ok w') (W : w.wf U m) : w'.wf U (m + 2) ∧ w'.s.R.length = w.s.R.length := by
 unfold a1o at h
 split at h
 ·cases h
 ·rename_i r hr
  obtain ⟨i, _, hi, hil, rfl, _⟩ := S6 hr
  rw [hi] at h
  split at h
  ·exact b5m hil h W
  ·split at h
   ·have := a2p h W
    exact ⟨this.1.up (by omega), this.2⟩
   ·cases h; exact ⟨W.up (by omega), rfl⟩
theorem a7m {α : Type} {f : Wk → α → Except Int Wk} {k : Nat} (hf : ∀ {m : Nat} {w w' : Wk} {x : α}, f w x = .ok w' → w.wf U m → w'.wf U (m + k) ∧ w'.s.R.length = w.s.R.length) :
  ∀ (l : List α) {m : Nat} {w w' : Wk}, H7 f w l = .ok w' → w.wf U m → w'.wf U (m + k * l.length) ∧ w'.s.R.length = w.s.R.length
 | [], m, w, w', h, W => by cases h; exact ⟨W, rfl⟩
 | x :: l, m, w, w', h, W => by
  obtain ⟨w1, h1, h2⟩ := a1G h
  have a := hf h1 W
  have b := a7m hf l h2 a.1
  refine ⟨b.1.up ?_, by omega⟩
  rw [l_f, Nat.mul_succ]; omega
theorem b1B {i : Nat} {sum : Int} {yes : Bool} (hi : i < w.s.R.length) (h : Z8 w i sum yes = .ok w') (W : w.wf U m) : w'.wf U m ∧ w'.s.R.length = w.s.R.length := by
 unfold Z8 at h
 split at h
 ·have h1 := a3i h (W.putR (i := i) (r := { w.R i with paid := w64 ((w.R i).paid + sum) }) hi rfl rfl)
  exact ⟨h1.1, by rw [h1.2, v9]⟩
 ·exact a6R hi h W
theorem a4W {ss : List Sup} {i : Nat} {yes : Bool} (hi : i < w.s.R.length) (h : E7 ss w i yes = .ok w') (W : w.wf U m) : w'.wf U (m + 1) ∧ w'.s.R.length = w.s.R.length := by
 unfold E7 at h
 simp only at h
 split at h
 ·split at h
  ·have W1 := (W.putR (i := i) (r := { w.R i with given := w64 ((w.R i).given + (u4 ss (w.R i).want).getD 0) }) hi rfl rfl)
   have h1 := a3i h (W1.mv _ _)
   exact ⟨h1.1.up (by omega), by rw [h1.2]; exact v9⟩
  ·cases h
 ·have := a3w (by rw [D8]; exact hi) h (W.release hi)
  exact ⟨this.1, by rw [this.2, D8]⟩
end
end
theorem b4H {sg : Int} {sh : List Int} {U : List Unt} (h : ∀ u ∈ U, 0 ≤ u.cat) : ∀ u ∈ a1s sg sh U, 0 ≤ u.cat := by
 intro u hu
 unfold a1s at hu
 obtain ⟨i, hi, rfl⟩ := a0q hu
 simp only [List.getElem_zipWith]
 exact h (U[i]'(by rw [List.length_zipWith] at hi; omega)) (l_v _)
theorem a4L {o : Odr} {k : Int} (ho : ∀ l ∈ o.ls, F7 k l) (i : Int) : ∀ r, ∀ u ∈ K9 o i r, 0 ≤ u.cat
 | 0 => by
  intro u hu
  obtain ⟨x, hx, hu⟩ := List.mem_flatMap.1 hu
  rw [(List.mem_replicate.1 hu).2]
  exact (ho x hx).2.1
 | r + 1 => b4H (a4L ho i r)
theorem a6N {k : Int} : ∀ {os : List Odr} (i : Nat), (∀ o ∈ os, A4 k o) → ∀ u ∈ z5 i os, 0 ≤ u.cat
 | [], _, _, u, hu => by cases hu
 | o :: os, i, h, u, hu => by
  rcases List.mem_append.1 hu with hu | hu
  ·exact a4L (h o (by simp)).2.1 _ _ u hu
  ·exact a6N (i + 1) (fun x hx => h x (by simp [hx])) u hu
theorem b2F {C : Cfg} (hok : C8 C) : ∀ u ∈ l6 C, 0 ≤ u.cat := fun u hu => by
 rcases List.mem_append.1 hu with hu | hu
 ·exact a6N 0 hok.2.2.2.1 u hu
 ·obtain ⟨x, _, hu⟩ := List.mem_flatMap.1 hu
  rw [(List.mem_replicate.1 hu).2]
  exact Int.le_refl _
theorem b8E {C D : Cfg} (hp : D.pu = C.pu) (hok : C8 C) : Stc D (l6 C) := ⟨a9D hp.symm hok, b4F hok, b2F hok, (a2C hok).2⟩
section
set_option maxHeartbeats 16000000
section
variable {h0 h : c9} {l : List HP}
theorem b9C {ps : List Pol} {U : List Unt} {r : Ret} : K3 ps U r 0 = 0 := by unfold K3; rw [a0t]; rfl
theorem b2T (C : Cfg) (hp : Y2 C.ps) {U : List Unt} (hU : b3g U) {A : Option Addr} {c : Nat} (x : j0) (hC : ∀ h', St h0 h' l → C.rd h') (hu : ∀ h', St h0 h' l → Arr Unt.enc 4 h' A U) (hul : U.length ≤ 200)
  (ha : ∀ h', St h0 h' l → Arr j4 1 h' x.A x.r.us) (hb : ∀ h', St h0 h' l → Arr j4 1 h' x.B x.r.gs) (hok : K2 x.r.us x.r.gs) (hrea : isR x.r.rea) (hin : ∀ v ∈ x.r.us, v < U.length ∧ 0 ≤ (l7 U v).cat ∧ (l7 U v).cat < C.ps.length) (S : St h0 h l) :
  d8 Tryz.prog 16 [.agg C.enc.toArray, .slice A U.length c, .agg x.enc.toArray] h fun v h' => v = .int .i64 (F6 C.ps U x.r) ∧ St h0 h' l := by
 obtain ⟨n1, n2, hall⟩ := hok
 have hn200 := n1.2
 refine EN i16.eq_1 fun K hK => Wa ?_
 (revert S; (try clear F); refine AL fun g h S F => ?_)
 refine Wa ?_
 (revert S; (try clear F); refine AL fun b h S F => ?_)
 refine Wc F @j0.enc.eq_1 ?_
 refine lI (fun ρ h' => ρ 1 = .slice A U.length c ∧ ρ 3 = .pointer (some ⟨g, 0, none⟩) ∧ ρ 5 = .pointer (some ⟨b, 0, none⟩) ∧ ρ 12 = .int .i64 x.r.us.length ∧ ∃ i : Nat, ρ 13 = .int .i64 i ∧ i ≤ x.r.us.length ∧ ρ 7 = .int .i64 (K3 C.ps U x.r i) ∧
  St h0 h' (f8 b x.enc 59 :: f8 g C.enc 26 :: l)) (fun ρ _ => x.r.us.length - (iv (ρ 13)).toNat) ?_ ?_
 ·refine Wa ?_
  exact ⟨0, rfl, by omega, by rw [b9C], S⟩
 clear S F
 rintro ρ h J hJ ⟨e1, e3, e5, e12, i, e13, hi, e7, S⟩
 refine Wc e12 e13 ?_
 refine cD (fun hlt => ?_) (fun hlt => ?_)
 rotate_left
 ·obtain rfl : i = x.r.us.length := by omega
  rw [a4a n2] at e7
  refine Wb e7 ?_
  exact hK _ _ ⟨rfl, S.tl.tl⟩
 have hil : i < x.r.us.length := by omega
 obtain ⟨b1, o1, hA1, q1⟩ := (ha _ S.tl.tl).at hil
 have q1 := rP0 q1 (by omega)
 simp only [j4, l_o, x5] at q1
 rw [← m8] at q1
 obtain ⟨c1, _, c2⟩ := hall i hil
 have hsn := a7f (ps := C.ps) (U := U) (r := x.r) n2 hil
 have hbd := Y1 (r := x.r) hp hU i
 have hbd2 := Y1 (r := x.r) hp hU (i + 1)
 have hin1 := hin _ (l_v hil)
 rw [← m8 hil] at hin1
 obtain ⟨j, hj⟩ := l_u c1.1
 rw [hj] at q1 hsn hin1
 have hjl : j < U.length := by omega
 have hat : l7 U (j : Int) = U[j] := by rw [l7, M7, l_s, l_r hjl]; rfl
 have hshj := hU _ (l_v hjl)
 obtain ⟨b4, o4, hA4, q4⟩ := (hu _ S.tl.tl).at hjl
 rw [hat] at hin1
 generalize U[j] = z at *
 generalize hgv : x.r.gs.getD i 0 = gv at *
 have hend : ∀ ρ' h, ρ' 1 = .slice A U.length c → ρ' 3 = .pointer (some ⟨g, 0, none⟩) → ρ' 5 = .pointer (some ⟨b, 0, none⟩) → ρ' 12 = .int .i64 x.r.us.length → ρ' 13 = .int .i64 (i + 1) → ρ' 7 = .int .i64 (K3 C.ps U x.r (i + 1)) →
   St h0 h (f8 b x.enc 59 :: f8 g C.enc 26 :: l) → J ρ' h := by
  intro ρ' h d1 d3 d5 d12 d13 d7 S
  refine hJ _ _ ⟨d1, d3, d5, d12, i + 1, d13, by omega, d7, S⟩ ?_
  refine Wc d13 e13 ?_
  omega
 ((try clear F); have F := S.fx)
 refine Wi e1 e5 e13 F @j0.enc.eq_1 hA1 q1 (Pd hA4 q4 @x5) ?_
 (revert S; (try clear F); refine AL fun q h S F => ?_)
 refine Wb @Unt.enc.eq_1 ?_
 (revert S; (try clear F); refine ST fun h S F => ?_)
 obtain ⟨b2, o2, hA2, q2⟩ := (hb _ S.tl.tl.tl).at (i := i) (by omega)
 have q2 := rP0 q2 (by omega)
 simp only [j4, l_o, x5] at q2
 rw [← m8, hgv] at q2
 by_cases d1 : gv = 4
 ·have hw : L6 C.ps U x.r.rea (j : Int) gv = z.share := by rw [L6, if_pos d1, hat]
  rw [hw] at hsn
  refine Wi e5 e7 e13 F @j0.enc.eq_1 @Unt.enc.eq_1 hA2 (Pd q2 @x5 d1) ?_
  refine hend _ _ ?_ ?_ ?_ ?_ ?_ ?_ S.tl <;> ((refine Wf e1 e3 e5 e12 hsn ?_); trivial)
 by_cases d2 : 0 ≤ gv
 ·obtain ⟨ct, hct⟩ := l_u hin1.2.1
  have hctl : ct < C.ps.length := by omega
  have hpo : B2 C.ps z.cat = C.ps[ct] := by rw [B2, if_pos hin1.2.1, hct, M7, l_s, l_r hctl]; rfl
  have hPr : C.ps[ct].right := hp.2 _ (l_v hctl)
  obtain ⟨b5, o5, hA5, q5⟩ := (hC _ S.tl.tl.tl).ps.at hctl
  have hw : L6 C.ps U x.r.rea (j : Int) gv = wrt C.ps[ct] z.share x.r.rea gv := by rw [L6, if_neg d1, if_pos d2, hat, hpo]
  rw [hw] at hsn
  generalize C.ps[ct] = P at *
  refine Wi e5 e13 F @j0.enc.eq_1 hA2 q2 @x5 (Pc d1 d2) ?_
  refine dE ?_
  refine Wi e3 e5 e7 e13 F @j0.enc.eq_1 @Cfg.enc.eq_1 (Pf @Unt.enc.eq_1 hct hA2 q2 (Pd hA5 q5 @x5)) ?_
  have c2' := c2.2
  have hr2 := hrea.2
  refine cI (b3p P z.share x.r.rea gv hPr hrea ⟨d2, by omega⟩ hshj.1 (by omega) _) ?_
  rintro _ h ⟨rfl, f1⟩
  have S := S.frame f1
  refine Wc e7 e13 ?_
  refine hend _ _ ?_ ?_ ?_ ?_ ?_ ?_ S.tl <;> ((refine Wf e1 e3 e5 e12 hsn ?_); trivial)
 ·have hw : L6 C.ps U x.r.rea (j : Int) gv = 0 := by rw [L6, if_neg d1, if_neg d2]
  rw [hw, Int.add_zero] at hsn
  refine Wi e5 e13 F @j0.enc.eq_1 hA2 q2 @x5 (Pc d1 d2) ?_
  refine hend _ _ ?_ ?_ ?_ ?_ ?_ ?_ S.tl <;> ((refine Wg e1 e3 e5 e7 e12 hsn ?_); trivial)
end
theorem b9m {sg : Int} {sh : List Int} {U : List Unt} {P : Int → Int → Prop} (h : ∀ u ∈ U, P u.ord u.cat) : ∀ u ∈ a1s sg sh U, P u.ord u.cat := by
 intro u hu
 unfold a1s at hu
 obtain ⟨i, hi, rfl⟩ := a0q hu
 simp only [List.getElem_zipWith]
 exact h (U[i]'(by rw [List.length_zipWith] at hi; omega)) (l_v _)
theorem a6o {o : Odr} {k : Int} (ho : ∀ l ∈ o.ls, F7 k l) (i : Int) : ∀ r, ∀ u ∈ K9 o i r, u.cat < k
 | 0 => by
  intro u hu
  obtain ⟨x, hx, hu⟩ := List.mem_flatMap.1 hu
  rw [(List.mem_replicate.1 hu).2]
  exact (ho x hx).2.2
 | r + 1 => b9m (P := fun _ c => c < k) (a6o ho i r)
theorem a8Z {k : Int} : ∀ {os : List Odr} (i : Nat), (∀ o ∈ os, A4 k o) → ∀ u ∈ z5 i os, u.cat < k
 | [], _, _, u, hu => by cases hu
 | o :: os, i, h, u, hu => by
  rcases List.mem_append.1 hu with hu | hu
  ·exact a6o (h o (by simp)).2.1 _ _ u hu
  ·exact a8Z (i + 1) (fun x hx => h x (by simp [hx])) u hu
theorem b4w {C : Cfg} (hok : C8 C) : ∀ u ∈ l6 C, 0 ≤ u.ord → u.cat < C.ps.length := fun u hu h0 => by
 rcases List.mem_append.1 hu with hu | hu
 ·exact a8Z 0 hok.2.2.2.1 u hu
 ·obtain ⟨x, _, hu⟩ := List.mem_flatMap.1 hu
  rw [(List.mem_replicate.1 hu).2] at h0
  simp at h0
end
end Go.Proofs.YtcgbhcgfdcfmaaaGreat.MX
