import Derived.Test.YtcgbhcgfdcfmaaaGreatK22
import Derived.Test.YtcgbhcgfdcfmaaaGreatK23
namespace Go.Proofs.YtcgbhcgfdcfmaaaGreat.MX
open Go Go.Proofs
set_option linter.unusedSimpArgs false
set_option linter.unusedVariables false
structure Wk where
 s : Sag
 sd : List Msg
structure Cmd where
 kind : Int
 ord : Int
 us : List Int
 rea : Int
 want : Int
 cred : Bool
 rma : Int
 unit : Int
 grade : Int
 days : Int
 key : Int
 yes : Bool
abbrev w64 (n : Int) : Int := IntKind.i64.wrap n
def mayK (a b : Int) : Prop := a = 0 ∧ b = 1 ∨ a = 1 ∧ (b = 2 ∨ b = 6) ∨ a = 2 ∧ (b = 3 ∨ b = 4 ∨ b = 5 ∨ b = 8) ∨ a = 3 ∧ b = 7 ∨ a = 7 ∧ (b = 3 ∨ b = 8) ∨ a = 8 ∧ (b = 0 ∨ b = 6)
instance (a b : Int) : Decidable (mayK a b) := by unfold mayK; exact inferInstance
def movU (u : KU) (to : Int) : KU := ⟨to, u.sku, u.recv || decide (to = 2), u.grad || decide (u.place = 2)⟩
def KU0 : KU := ⟨0, 0, false, false⟩
def moveE (K : List KU) (n to : Int) : Int := if 0 ≤ n ∧ n < K.length then (if mayK (placeK K n) to then 0 else 8) else 7
def moveK (K : List KU) (n to : Int) : List KU := if moveE K n to = 0 then K.set n.toNat (movU (K.getD n.toNat KU0) to) else K
def pickI (K : List KU) (sku : Int) : Option Nat := K.findIdx? fun u => decide (u.place = 3 ∧ u.sku = sku)
def nextV (st by_ : Int) : Option Int :=
 if by_ = 1 ∧ st = 1 then some 2 else if by_ = 2 ∧ st = 2 then some 3 else if by_ = 3 ∧ st = 3 then some 4 else if by_ = 4 ∧ st = 4 ∨ by_ = 5 ∧ st = 3 then some 5
 else if by_ = 6 ∧ st = 5 then some 6 else if (by_ = 7 ∨ by_ = 8 ∨ by_ = 9) ∧ (st = 1 ∨ st = 2) then some by_ else none
def Led.get (l : Led) (n : Int) : Int := if n = 0 then l.a else if n = 1 then l.b else if n = 2 then l.c else if n = 3 then l.d else l.e
def Led.put (l : Led) (n v : Int) : Led := if n = 0 then { l with a := v } else if n = 1 then { l with b := v } else if n = 2 then { l with c := v } else if n = 3 then { l with d := v } else { l with e := v }
def okC (n : Int) : Prop := -1125899906842624 ≤ n ∧ n ≤ 1125899906842624
instance (n : Int) : Decidable (okC n) := by unfold okC; exact inferInstance
def postP (l : Led) (a b sum : Int) : Except Int Led :=
 if sum < 0 then .error 1 else if okC (l.get a) ∧ okC (l.get b) ∧ okC sum ∧ okC (l.get a - sum) ∧ okC (l.get b + sum) then .ok ((l.put a (l.get a - sum)).put b (l.get b + sum)) else .error 9
def Sag.at_ (s : Sag) (n : Int) : Option Ret := if 1 ≤ n then s.R[(n - 1).toNat]? else none
def Wk.R (w : Wk) (i : Nat) : Ret := w.s.R.getD i Ret.zero
def Wk.put (w : Wk) (i : Nat) (r : Ret) : Wk := { w with s := { w.s with R := w.s.R.set i r } }
def Wk.led (w : Wk) (l : Led) : Wk := { w with s := { w.s with led := l } }
def Wk.mv (w : Wk) (n to : Int) : Wk := { w with s := { w.s with K := moveK w.s.K n to } }
def sayP (w : Wk) (kind num value : Int) : Wk :=
 ⟨{ w.s with key := w.s.key + 1, O := w.s.O ++ [⟨w.s.key, kind, num, value, 1, w.s.now + 1⟩] }, w.sd ++ [⟨w.s.key, kind, num, value, 1, w.s.now + 1⟩]⟩
def releaseP (w : Wk) (i : Nat) : Wk := if 0 ≤ (w.R i).res then (w.mv (w.R i).res 3).put i { w.R i with res := -1 } else w
def dropL (O : List Msg) (num : Int) : List Msg := O.filter fun m => !decide (m.rma = num ∧ m.kind = 1)
def endP (w : Wk) (num by_ : Int) : Except Int Wk :=
 match w.s.at_ num with
 | none => .error 7
 | some r => match nextV r.state by_ with
  | none => .error 8
  | some st =>
   let w2 := releaseP (w.put (num - 1).toNat { r with state := st }) (num - 1).toNat
   .ok { w2 with s := { w2.s with T := without w2.s.T num, O := dropL w2.s.O num } }
def stepP (w : Wk) (num by_ : Int) : Except Int Wk :=
 match w.s.at_ num with
 | none => .error 7
 | some r => match nextV r.state by_ with
  | none => .error 8
  | some st => .ok (w.put (num - 1).toNat { r with state := st })
def movesP (w : Wk) (us : List Int) (to : Int) : Wk := us.foldl (fun w u => w.mv u to) w
def setTW (w : Wk) (num d : Int) : Wk := { w with s := { w.s with T := setT w.s.T num d } }
def stopTW (w : Wk) (num : Int) : Wk := { w with s := { w.s with T := without w.s.T num } }
def pickP (w : Wk) (num : Int) : Except Int Wk :=
 (stepP w num 2).bind fun w1 => let w2 := movesP w1 (w1.R (num - 1).toNat).us 1; .ok (setTW w2 num (w2.s.now + 30))
def receiveP (w : Wk) (num : Int) : Except Int Wk :=
 (stepP w num 3).bind fun w1 => let w2 := movesP w1 (w1.R (num - 1).toNat).us 2; .ok (stopTW w2 num)
def wpost (w : Wk) (a b sum : Int) : Except Int Wk := (postP w.s.led a b sum).map w.led
def creditP (w : Wk) (i : Nat) (sum : Int) : Except Int Wk := wpost (w.put i { w.R i with credd := w64 ((w.R i).credd + sum) }) 1 3 sum
def payP (w : Wk) (i : Nat) (sum : Int) : Except Int Wk := if sum = 0 then .ok w else if (w.R i).cred = true then creditP w i sum else .ok (sayP w 2 (w.R i).num sum)
def closeP (w : Wk) (i : Nat) : Wk := if (w.R i).state = 5 ∧ waitsOf (w.R i).num w.s.O = 0 then w.put i { w.R i with state := 6 } else w
def settleP (ss : List Sup) (w : Wk) (i : Nat) (by_ : Int) : Except Int Wk :=
 match nextV (w.R i).state by_ with
 | none => .error 8
 | some st =>
  (wpost (w.put i { w.R i with state := st }) 0 1 (w.R i).worth).bind fun w1 =>
   let price := (priceOf ss (w1.R i).want).getD 0
   (if 0 ≤ (w1.R i).res then (if (w1.R i).worth < price then payP (releaseP w1 i) i (w1.R i).worth else payP (sayP w1 3 (w1.R i).num (w1.R i).res) i (w64 ((w1.R i).worth - price))) else payP w1 i (w1.R i).worth).map fun w2 => closeP w2 i
def loseTo (U : List Unt) (w : Wk) (i : Nat) : Nat → Wk
 | 0 => w
 | j + 1 =>
  let w1 := loseTo U w i j
  let u := (w1.R i).us.getD j 0
  (w1.mv u 6).put i { w1.R i with gs := (w1.R i).gs.set j 4, worth := w64 ((w1.R i).worth + (untAt U u).share) }
def loseP (ss : List Sup) (U : List Unt) (w : Wk) (i : Nat) : Except Int Wk := settleP ss (loseTo U w i (w.R i).us.length) i 5
def dueP (ss : List Sup) (U : List Unt) (w : Wk) (num : Int) : Except Int Wk :=
 match w.s.at_ num with
 | none => .error 7
 | some r => if r.state = 3 then loseP ss U w (num - 1).toNat else if r.state = 1 ∨ r.state = 2 then endP w num 8 else .ok w
def foldE {α : Type} (f : Wk → α → Except Int Wk) : Wk → List α → Except Int Wk
 | w, [] => .ok w
 | w, x :: l => (f w x).bind fun w1 => foldE f w1 l
def tickP (ss : List Sup) (U : List Unt) (w : Wk) (days : Int) : Except Int (Wk × List Msg) :=
 if days < 1 ∨ 1000 < days then .error 1 else if 100000 < w.s.now + days then .error 2 else
  let now := w.s.now + days
  (foldE (dueP ss U) { w with s := { w.s with now := now, T := lateT w.s.T now } } ((dueT w.s.T now).map Tm.num)).bind fun w1 =>
   (foldE (fun w (m : Msg) => endP w m.rma 8) { w1 with s := { w1.s with O := leftOf now w1.s.O } } (givenOf now w1.s.O)).map fun w2 => (w2, saidOf now w1.s.O)
def paidP (w : Wk) (i : Nat) (sum : Int) (yes : Bool) : Except Int Wk :=
 if yes = true then wpost (w.put i { w.R i with paid := w64 ((w.R i).paid + sum) }) 1 2 sum else creditP w i sum
def shippedP (ss : List Sup) (w : Wk) (i : Nat) (yes : Bool) : Except Int Wk :=
 let price := (priceOf ss (w.R i).want).getD 0
 if yes = true then
  let w1 := w.put i { w.R i with given := w64 ((w.R i).given + price) }
  if moveE w1.s.K (w1.R i).res 8 = 0 then wpost (w1.mv (w1.R i).res 8) 1 4 price else .error (moveE w1.s.K (w1.R i).res 8)
 else payP (releaseP w i) i price
def backTo (yes : Bool) : Int := if yes = true then 0 else 6
def replyP (ss : List Sup) (w : Wk) (key : Int) (yes : Bool) : Except Int Wk :=
 match w.s.O.findIdx? fun m => decide (m.key = key) with
 | none => .error 16
 | some j =>
  let m := w.s.O.getD j Msg.zero
  let w1 : Wk := { w with s := { w.s with O := w.s.O.take j ++ w.s.O.drop (j + 1) } }
  match w1.s.at_ m.rma with
  | none => .error 7
  | some _ =>
   let i := (m.rma - 1).toNat
   if m.kind = 1 ∧ yes = false then endP w1 m.rma 8 else
    (if m.kind = 1 then stepP w1 m.rma 1 else if m.kind = 2 then paidP w1 i m.value yes else if m.kind = 3 then shippedP ss w1 i yes
     else if moveE w1.s.K m.value (backTo yes) = 0 then .ok (w1.mv m.value (backTo yes)) else .error (moveE w1.s.K m.value (backTo yes))).map fun w2 => closeP w2 i
noncomputable def gradeE (r : Ret) (unit grade : Int) : Except Int Nat := if dcd (r.right ∧ btw grade 0 4) = false then .error 1 else match r.us.findIdx? fun u => decide (u = unit) with
 | none => .error 7
 | some j => if r.gs.getD j 0 ≠ -1 then .error 8 else .ok j
noncomputable def gradeK (ps : List Pol) (ss : List Sup) (U : List Unt) (w : Wk) (c : Cmd) (i j : Nat) : Except Int Wk :=
 let r := w.R i
 let x := untAt U c.unit
 let p := polOf ps x.cat
 let w1 := w.put i { r with gs := r.gs.set j c.grade, worth := w64 (r.worth + wrt p x.share r.rea c.grade) }
 let w2 := if p.gto c.grade ≠ 0 then w1.mv c.unit (p.gto c.grade) else sayP (w1.mv c.unit 8) 4 r.num c.unit
 if (w2.R i).gs.contains (-1) = true then .ok w2 else settleP ss w2 i 4
noncomputable def gradeP (ps : List Pol) (ss : List Sup) (U : List Unt) (w : Wk) (c : Cmd) : Except Int Wk :=
 match w.s.at_ c.rma with
 | none => .error 7
 | some r => if r.state ≠ 4 then .error 8 else match gradeE r c.unit c.grade with
  | .error e => .error e
  | .ok j => if c.grade = 4 then .error 1 else gradeK ps ss U w c (c.rma - 1).toNat j
def holderS (s : Sag) (u : Int) : Int := ((s.R.find? fun r => !decide (6 ≤ r.state ∧ r.state ≤ 9) && r.us.contains u).map Ret.num).getD 0
def mayP (p : Pol) (days : Int) (wants : Bool) : Int := if p.fin = true ∨ p.exc = true ∧ wants = false then 12 else if days < 0 ∨ p.w < days then 11 else 0
def askUnit (U : List Unt) (c : Cmd) (i : Nat) : Prop := (0 < i → c.us.getD (i - 1) 0 < c.us.getD i 0) ∧ 0 ≤ c.us.getD i 0 ∧ c.us.getD i 0 < U.length ∧ (untAt U (c.us.getD i 0)).ord = c.ord
def askWare (ps : List Pol) (os : List Odr) (U : List Unt) (s : Sag) (c : Cmd) (u : Int) : Int :=
 if placeK s.K u ≠ 0 ∨ 0 < holderS s u then 13 else mayP (polOf ps (untAt U u).cat) (s.now - ((os[c.ord.toNat]?).map Odr.day).getD 0) (decide (0 < c.want))
def firstE {α : Type} (f : α → Int) : List α → Int
 | [] => 0
 | x :: l => if f x = 0 then firstE f l else f x
noncomputable def askedP (ps : List Pol) (os : List Odr) (U : List Unt) (s : Sag) (c : Cmd) : Int :=
 if dcd (∀ i, i < c.us.length → askUnit U c i) = false then 1 else if c.rea < 0 ∨ 4 ≤ c.rea ∨ 1000 < c.want then 1 else firstE (askWare ps os U s c) c.us
def wantedP (ss : List Sup) (w : Wk) (sku : Int) : Except Int (Int × Wk) :=
 if sku = 0 then .ok (-1, w) else match priceOf ss sku with
 | none => .error 14
 | some _ => match pickI w.s.K sku with
  | none => .error 14
  | some j => .ok ((j : Int), { w with s := { w.s with K := w.s.K.set j { w.s.K.getD j KU0 with place := 7 } } })
noncomputable def requestP (ps : List Pol) (os : List Odr) (ss : List Sup) (U : List Unt) (w : Wk) (c : Cmd) : Except Int (Int × Wk) :=
 if 100 ≤ w.s.R.length then .error 15 else if c.ord < 0 ∨ (os.length : Int) ≤ c.ord then .error 7 else
  if askedP ps os U w.s c ≠ 0 then .error (askedP ps os U w.s c) else
   (wantedP ss w c.want).map fun x =>
    let num : Int := w.s.R.length + 1
    let r : Ret := ⟨num, c.ord, c.rea, c.want, x.1, c.cred || c.us.any fun u => (polOf ps (untAt U u).cat).cre, 1, w.s.now, c.us, c.us.map fun _ => -1, 0, 0, 0, 0⟩
    (num, sayP { x.2 with s := { x.2.s with R := w.s.R ++ [r], T := setT x.2.s.T num (w.s.now + 14) } } 1 num 0)
noncomputable def doP (D : Cfg) (U : List Unt) (w : Wk) (c : Cmd) : Except Int (Int × List Msg × Wk) :=
 if c.kind = 1 then (requestP D.ps D.os D.ss U w c).map fun x => (x.1, [], x.2)
 else if c.kind = 2 then (endP w c.rma 9).map fun x => (0, [], x)
 else if c.kind = 3 then (endP w c.rma 7).map fun x => (0, [], x)
 else if c.kind = 4 then (pickP w c.rma).map fun x => (0, [], x)
 else if c.kind = 5 then (receiveP w c.rma).map fun x => (0, [], x)
 else if c.kind = 6 then (gradeP D.ps D.ss U w c).map fun x => (0, [], x)
 else if c.kind = 7 then (tickP D.ss U w c.days).map fun x => (0, x.2, x.1)
 else (replyP D.ss w c.key c.yes).map fun x => (0, [], x)
def Cmd.bare (c : Cmd) : Cmd := if c.kind = 1 then { c with ord := 0, us := [], rea := 0, want := 0, cred := false } else if 2 ≤ c.kind ∧ c.kind ≤ 5 then { c with rma := 0 } else if c.kind = 6 then { c with rma := 0, unit := 0, grade := 0 } else if c.kind = 7 then { c with days := 0 } else if c.kind = 8 then { c with key := 0, yes := false } else c
def Cmd.nought (c : Cmd) : Prop := c.ord = 0 ∧ c.us = [] ∧ c.rea = 0 ∧ c.want = 0 ∧ c.cred = false ∧ c.rma = 0 ∧ c.unit = 0 ∧ c.grade = 0 ∧ c.days = 0 ∧ c.key = 0 ∧ c.yes = false
def Cmd.fits (c : Cmd) : Prop :=
 if c.kind = 1 then (1 ≤ c.us.length ∧ c.us.length ≤ 60) ∧ btw c.ord 0 255 ∧ btw c.rea 0 255 ∧ btw c.want 0 65535 ∧ ∀ u ∈ c.us, btw u 0 255
 else if 2 ≤ c.kind ∧ c.kind ≤ 5 then btw c.rma 0 65535 else if c.kind = 6 then btw c.rma 0 65535 ∧ btw c.unit 0 255 ∧ btw c.grade 0 255 else if c.kind = 7 then btw c.days 0 65535 else if c.kind = 8 then btw c.key 0 4294967295 else False
def Cmd.formed (c : Cmd) : Prop := c.fits ∧ c.bare.nought
noncomputable def takeP (D : Cfg) (U : List Unt) (s : Sag) (c : Cmd) : Int × List Msg × Int × Sag :=
 if dcd c.formed = false then (0, [], 1, s) else match doP D U ⟨s, []⟩ c with
 | .error e => (0, [], e, s)
 | .ok x => (x.1, x.2.2.sd ++ x.2.1, 0, x.2.2.s)
section
set_option maxHeartbeats 4000000
section
variable {h0 h : Heap} {l : List HP} {t : Nat} {L : List Tm}
end
end
theorem insT_eq (W : List Tm) (x : Tm) : insT W x = (W.takeWhile fun y => decide (aheadT y x)) ++ x :: W.dropWhile fun y => decide (aheadT y x) := by
 have h1 : W.take (posT W x) = W.takeWhile fun y => decide (aheadT y x) := (List.prefix_iff_eq_take.1 (List.takeWhile_prefix _)).symm
 have h2 : W.drop (posT W x) = W.dropWhile fun y => decide (aheadT y x) := by
  have h3 : (W.takeWhile fun y => decide (aheadT y x)) ++ (W.dropWhile fun y => decide (aheadT y x)) = W := List.takeWhile_append_dropWhile
  conv => lhs; rw [← h3]
  unfold posT
  rw [h3]
  conv => lhs; arg 2; rw [← h3]
  rw [List.drop_left]
 unfold insT
 rw [h1, h2]
theorem take_ahead {W : List Tm} {x y : Tm} (hy : y ∈ W.takeWhile fun y => decide (aheadT y x)) : aheadT y x := by
 have := List.all_takeWhile (p := fun y => decide (aheadT y x)) (l := W)
 rw [List.all_eq_true] at this
 simpa using this y hy
theorem drop_not {W : List Tm} (hs : W.Pairwise aheadT) {x y : Tm} (hy : y ∈ W.dropWhile fun y => decide (aheadT y x)) : ¬ aheadT y x := by
 induction W with
 | nil => simp at hy
 | cons a W ih =>
  rw [List.dropWhile_cons] at hy
  by_cases ha : aheadT a x
  ·rw [if_pos (by simpa using ha)] at hy
   exact ih (List.pairwise_cons.1 hs).2 hy
  ·rw [if_neg (by simpa using ha)] at hy
   rcases List.mem_cons.1 hy with rfl | hy
   ·exact ha
   ·exact fun h => ha (aheadT_trans ((List.pairwise_cons.1 hs).1 y hy) h)
theorem ahead_total {x y : Tm} (h1 : ¬ aheadT y x) (h2 : y.num ≠ x.num) : aheadT x y := by
 unfold aheadT at *
 omega
theorem good_ins {W : List Tm} {x : Tm} (hg : GoodT W) (hx : ∀ y ∈ W, y.num ≠ x.num) : GoodT (insT W x) := by
 rw [insT_eq]
 have hsub1 : ∀ y ∈ W.takeWhile (fun y => decide (aheadT y x)), y ∈ W := fun y hy => (List.takeWhile_sublist _).subset hy
 have hsub2 : ∀ y ∈ W.dropWhile (fun y => decide (aheadT y x)), y ∈ W := fun y hy => (List.dropWhile_sublist _).subset hy
 have hW : (W.takeWhile fun y => decide (aheadT y x)) ++ (W.dropWhile fun y => decide (aheadT y x)) = W := List.takeWhile_append_dropWhile
 constructor
 ·have h1 := hg.1
  rw [← hW, List.pairwise_append] at h1
  rw [List.pairwise_append, List.pairwise_cons]
  refine ⟨h1.1, ⟨fun y hy => ahead_total (drop_not hg.1 hy) (hx y (hsub2 y hy)), h1.2.1⟩, fun a ha b hb => ?_⟩
  rcases List.mem_cons.1 hb with rfl | hb
  ·exact take_ahead ha
  ·exact h1.2.2 a ha b hb
 ·have h1 := hg.2
  rw [← hW, List.pairwise_append] at h1
  rw [List.pairwise_append, List.pairwise_cons]
  refine ⟨h1.1, ⟨fun y hy => (hx y (hsub2 y hy)).symm, h1.2.1⟩, fun a ha b hb => ?_⟩
  rcases List.mem_cons.1 hb with rfl | hb
  ·exact hx a (hsub1 a ha)
  ·exact h1.2.2 a ha b hb
theorem good_sub {L M : List Tm} (hg : GoodT L) (hs : M.Sublist L) : GoodT M := ⟨hg.1.sublist hs, hg.2.sublist hs⟩
theorem good_without {L : List Tm} (hg : GoodT L) (n : Int) : GoodT (without L n) := good_sub hg List.filter_sublist
theorem good_late {L : List Tm} (hg : GoodT L) (d : Int) : GoodT (lateT L d) := good_sub hg (List.dropWhile_sublist _)
theorem without_num {L : List Tm} {n : Int} {y : Tm} (hy : y ∈ without L n) : y ∈ L ∧ y.num ≠ n := by
 unfold without at hy
 rw [List.mem_filter] at hy
 exact ⟨hy.1, by simpa [isNum] using hy.2⟩
theorem good_set {L : List Tm} (hg : GoodT L) (n d : Int) : GoodT (setT L n d) := good_ins (good_without hg n) fun y hy => (without_num hy).2
section
structure Stc (D : Cfg) (U : List Unt) : Prop where
 cfg : okCfg D
 sh : shOk U
 cat : ∀ u ∈ U, 0 ≤ u.cat
 ul : U.length ≤ 200
structure Wk.wf (U : List Unt) (m : Nat) (w : Wk) : Prop where
 kl : w.s.K.length = U.length
 rl : w.s.R.length ≤ 100
 rr : ∀ r ∈ w.s.R, okUnits r.us r.gs ∧ ∀ v ∈ r.us, v < U.length
 tg : GoodT w.s.T
 tn : ∀ x ∈ w.s.T, 1 ≤ x.num ∧ x.num ≤ w.s.R.length
 ol : w.s.O.length ≤ 70000 + m
 ot : ∀ x ∈ w.s.O, 0 ≤ x.tries ∧ x.tries ≤ 70000 + m
 key : 1 ≤ w.s.key ∧ w.s.key ≤ 8589934592 + m
 sl : w.sd.length ≤ m
 now : 0 ≤ w.s.now ∧ w.s.now ≤ 100000
theorem nums_le : ∀ (n : Nat) (L : List Int), L.Nodup → (∀ x ∈ L, 1 ≤ x ∧ x ≤ n) → L.length ≤ n
 | 0, [], _, _ => Nat.le_refl _
 | 0, x :: L, _, h => by have := h x (by simp); omega
 | n + 1, L, hn, h => by
  have h1 := nums_le n (L.erase ((n + 1 : Nat) : Int)) (hn.erase _) (fun x hx => by
   have hm := List.mem_of_mem_erase hx
   have hne : x ≠ ((n + 1 : Nat) : Int) := fun e => by
    rw [e] at hx
    exact (List.Nodup.not_mem_erase hn) hx
   have := h x hm
   omega)
  have h2 := List.length_erase (a := ((n + 1 : Nat) : Int)) (l := L)
  split at h2 <;> omega
section
variable {U : List Unt} {m : Nat} {w w' : Wk}
theorem Wk.wf.tl (W : w.wf U m) : w.s.T.length ≤ 100 := by
 have h := nums_le w.s.R.length (w.s.T.map Tm.num) (by
  rw [List.Nodup, List.pairwise_map]
  exact W.tg.2) (by
  intro x hx
  obtain ⟨y, hy, rfl⟩ := List.mem_map.1 hx
  exact W.tn y hy)
 rw [l_z] at h
 exact Nat.le_trans h W.rl
theorem Wk.wf.up (W : w.wf U m) {m' : Nat} (h : m ≤ m') : w.wf U m' :=
 ⟨W.kl, W.rl, W.rr, W.tg, W.tn, by have := W.ol; omega, fun x hx => by have := W.ot x hx; omega, by have := W.key; omega, by have := W.sl; omega, W.now⟩
theorem Wk.wf.len (W : w.wf U m) : ∀ r ∈ w.s.R, r.us.length ≤ 200 ∧ r.gs.length = r.us.length := fun r hr => by
 have h := (W.rr r hr).1
 have h1 := h.1.2
 exact ⟨by omega, h.2.1⟩
theorem R_mem {i : Nat} (hi : i < w.s.R.length) : w.R i ∈ w.s.R := by
 unfold Wk.R
 rw [l_s, l_r hi]
 exact l_v hi
theorem R_put {i : Nat} {r : Ret} (hi : i < w.s.R.length) : (w.put i r).R i = r := by
 unfold Wk.R Wk.put
 simp [hi]
theorem put_len {i : Nat} {r : Ret} : (w.put i r).s.R.length = w.s.R.length := by simp [Wk.put]
theorem Wk.wf.put (W : w.wf U m) {i : Nat} {r : Ret} (h : okUnits r.us r.gs ∧ ∀ v ∈ r.us, v < U.length) : (w.put i r).wf U m :=
 ⟨W.kl, by rw [put_len]; exact W.rl, fun x hx => by
  rcases List.mem_or_eq_of_mem_set hx with hx | hx
  ·exact W.rr x hx
  ·rw [hx]; exact h, W.tg, fun x hx => by have := W.tn x hx; rw [put_len]; exact this, W.ol, W.ot, W.key, W.sl, W.now⟩
theorem Wk.wf.putR (W : w.wf U m) {i : Nat} {r : Ret} (hi : i < w.s.R.length) (h1 : r.us = (w.R i).us) (h2 : r.gs = (w.R i).gs) : (w.put i r).wf U m :=
 W.put (by rw [h1, h2]; exact W.rr _ (R_mem hi))
theorem moveK_len (K : List KU) (n to : Int) : (moveK K n to).length = K.length := by
 unfold moveK
 split <;> simp
theorem Wk.wf.mv (W : w.wf U m) (n to : Int) : (w.mv n to).wf U m :=
 ⟨by rw [← W.kl]; exact moveK_len _ _ _, W.rl, W.rr, W.tg, W.tn, W.ol, W.ot, W.key, W.sl, W.now⟩
theorem Wk.wf.led (W : w.wf U m) (l : Led) : (w.led l).wf U m := ⟨W.kl, W.rl, W.rr, W.tg, W.tn, W.ol, W.ot, W.key, W.sl, W.now⟩
theorem Wk.wf.say (W : w.wf U m) (k n v : Int) : (sayP w k n v).wf U (m + 1) :=
 ⟨W.kl, W.rl, W.rr, W.tg, W.tn, by have := W.ol; simp only [sayP, l_m, l_f, l_g]; omega, fun x hx => by
  rcases List.mem_append.1 hx with hx | hx
  ·have := W.ot x hx; omega
  ·rw [l_aa] at hx; rw [hx]; exact ⟨by show (0 : Int) ≤ 1; decide, by show (1 : Int) ≤ _; omega⟩, by have := W.key; simp only [sayP]; omega, by have := W.sl; simp only [sayP, l_m, l_f, l_g]; omega, W.now⟩
theorem release_len (w : Wk) (i : Nat) : (releaseP w i).s.R.length = w.s.R.length := by
 unfold releaseP
 split
 ·rw [put_len]; rfl
 ·rfl
theorem Wk.wf.release (W : w.wf U m) {i : Nat} (hi : i < w.s.R.length) : (releaseP w i).wf U m := by
 unfold releaseP
 split
 ·exact (W.mv _ _).putR hi rfl rfl
 ·exact W
theorem Wk.wf.without (W : w.wf U m) (n : Int) (O : List Msg) (hO : O.Sublist w.s.O) : Wk.wf U m { w with s := { w.s with T := without w.s.T n, O := O } } :=
 ⟨W.kl, W.rl, W.rr, good_without W.tg n, fun x hx => W.tn x (without_num hx).1, Nat.le_trans hO.length_le W.ol, fun x hx => W.ot x (hO.subset hx), W.key, W.sl, W.now⟩
theorem at_spec {n : Int} {r : Ret} (h : w.s.at_ n = some r) : ∃ i : Nat, n = (i : Int) + 1 ∧ (n - 1).toNat = i ∧ i < w.s.R.length ∧ w.R i = r ∧ w.s.R[i]? = some r := by
 unfold Sag.at_ at h
 split at h
 ·rename_i h1
  have hlt : (n - 1).toNat < w.s.R.length := by
   by_cases hl : (n - 1).toNat < w.s.R.length
   ·exact hl
   ·rw [List.getElem?_eq_none (by omega)] at h; cases h
  refine ⟨(n - 1).toNat, by omega, rfl, hlt, ?_, h⟩
  unfold Wk.R
  rw [l_s, h]
  rfl
 ·cases h
theorem bind_ok {α β : Type} {x : Except Int α} {f : α → Except Int β} {y : β} (h : x.bind f = .ok y) : ∃ z, x = .ok z ∧ f z = .ok y := by
 cases x with
 | error e => cases h
 | ok z => exact ⟨z, rfl, h⟩
theorem map_ok {α β : Type} {x : Except Int α} {f : α → β} {y : β} (h : x.map f = .ok y) : ∃ z, x = .ok z ∧ f z = y := by
 cases x with
 | error e => cases h
 | ok z => exact ⟨z, rfl, by cases h; rfl⟩
theorem end_wf {num by_ : Int} (h : endP w num by_ = .ok w') (W : w.wf U m) : w'.wf U m ∧ w'.s.R.length = w.s.R.length := by
 unfold endP at h
 split at h
 ·cases h
 ·rename_i r hr
  obtain ⟨i, _, hi, hil, rfl, _⟩ := at_spec hr
  rw [hi] at h
  split at h
  ·cases h
  ·rename_i st hst
   cases h
   have h1 : (releaseP (w.put i { w.R i with state := st }) i).s.R.length = w.s.R.length := by rw [release_len, put_len]
   have W1 := (W.putR (i := i) (r := { w.R i with state := st }) hil rfl rfl).release (i := i) (by rw [put_len]; exact hil)
   exact ⟨W1.without num _ List.filter_sublist, h1⟩
theorem step_wf {num by_ : Int} (h : stepP w num by_ = .ok w') (W : w.wf U m) : w'.wf U m ∧ w'.s.R.length = w.s.R.length ∧ ∃ i : Nat, num = (i : Int) + 1 ∧ (num - 1).toNat = i ∧ i < w.s.R.length ∧ (w'.R i).us = (w.R i).us ∧ (w'.R i).gs = (w.R i).gs := by
 unfold stepP at h
 split at h
 ·cases h
 ·rename_i r hr
  obtain ⟨i, hn, hi, hil, rfl, _⟩ := at_spec hr
  rw [hi] at h
  split at h
  ·cases h
  ·rename_i st hst
   cases h
   exact ⟨W.putR hil rfl rfl, put_len, i, hn, hi, hil, by rw [R_put hil], by rw [R_put hil]⟩
theorem moves_wf (us : List Int) (to : Int) : ∀ {w : Wk}, w.wf U m → (movesP w us to).wf U m ∧ (movesP w us to).s.R = w.s.R := by
 induction us with
 | nil => intro w W; exact ⟨W, rfl⟩
 | cons u us ih =>
  intro w W
  have := ih (W.mv u to)
  exact ⟨this.1, this.2⟩
theorem post_wf {a b sum : Int} (h : wpost w a b sum = .ok w') (W : w.wf U m) : w'.wf U m ∧ w'.s.R = w.s.R := by
 obtain ⟨l, _, rfl⟩ := map_ok h
 exact ⟨W.led l, rfl⟩
theorem credit_wf {i : Nat} {sum : Int} (hi : i < w.s.R.length) (h : creditP w i sum = .ok w') (W : w.wf U m) : w'.wf U m ∧ w'.s.R.length = w.s.R.length := by
 have h1 := post_wf h (W.putR (i := i) (r := { w.R i with credd := w64 ((w.R i).credd + sum) }) hi rfl rfl)
 exact ⟨h1.1, by rw [h1.2, put_len]⟩
theorem pay_wf {i : Nat} {sum : Int} (hi : i < w.s.R.length) (h : payP w i sum = .ok w') (W : w.wf U m) : w'.wf U (m + 1) ∧ w'.s.R.length = w.s.R.length := by
 unfold payP at h
 split at h
 ·cases h; exact ⟨W.up (by omega), rfl⟩
 ·split at h
  ·have := credit_wf hi h W
   exact ⟨this.1.up (by omega), this.2⟩
  ·cases h; exact ⟨W.say _ _ _, rfl⟩
theorem close_wf {i : Nat} (hi : i < w.s.R.length) (W : w.wf U m) : (closeP w i).wf U m ∧ (closeP w i).s.R.length = w.s.R.length := by
 unfold closeP
 split
 ·exact ⟨W.putR hi rfl rfl, put_len⟩
 ·exact ⟨W, rfl⟩
theorem settle_wf {ss : List Sup} {i : Nat} {by_ : Int} (hi : i < w.s.R.length) (h : settleP ss w i by_ = .ok w') (W : w.wf U m) : w'.wf U (m + 2) ∧ w'.s.R.length = w.s.R.length := by
 unfold settleP at h
 split at h
 ·cases h
 ·rename_i st hst
  obtain ⟨w1, h1, h⟩ := bind_ok h
  obtain ⟨W1, l1⟩ := post_wf h1 (W.putR (i := i) (r := { w.R i with state := st }) hi rfl rfl)
  have l1 : w1.s.R.length = w.s.R.length := by rw [l1, put_len]
  have hi1 : i < w1.s.R.length := by omega
  obtain ⟨w2, h2, rfl⟩ := map_ok h
  have h3 : w2.wf U (m + 2) ∧ w2.s.R.length = w1.s.R.length := by
   split at h2
   ·split at h2
    ·have := pay_wf (by rw [release_len]; exact hi1) h2 (W1.release hi1)
     exact ⟨this.1.up (by omega), by rw [this.2, release_len]⟩
    ·have := pay_wf (w := sayP w1 3 (w1.R i).num (w1.R i).res) hi1 h2 (W1.say _ _ _)
     exact ⟨this.1, by rw [this.2]; rfl⟩
   ·have := pay_wf hi1 h2 W1
    exact ⟨this.1.up (by omega), this.2⟩
  have h4 := close_wf (i := i) (by omega) h3.1
  exact ⟨h4.1, by omega⟩
theorem getD_set (gs : List Int) (j : Nat) (v : Int) (k : Nat) : (gs.set j v).getD k 0 = if k = j ∧ j < gs.length then v else gs.getD k 0 := by
 simp only [l_s, List.getElem?_set]
 by_cases hk : j = k
 ·subst hk
  by_cases hj : j < gs.length
  ·simp [hj]
  ·simp [hj]
 ·simp [hk]
  intro h; exact absurd h.symm hk
theorem okUnits_set {us gs : List Int} {j : Nat} {v : Int} (h : okUnits us gs) (hv : btw v (-1) 4) : okUnits us (gs.set j v) := by
 obtain ⟨h1, h2, h3⟩ := h
 refine ⟨h1, by rw [l_ak]; exact h2, fun k hk => ?_⟩
 obtain ⟨a, b, c⟩ := h3 k hk
 refine ⟨a, b, ?_⟩
 rw [getD_set]
 split
 ·exact hv
 ·exact c
theorem lose_wf {i : Nat} (hi : i < w.s.R.length) (W : w.wf U m) : ∀ j, (loseTo U w i j).wf U m ∧ (loseTo U w i j).s.R.length = w.s.R.length ∧ ((loseTo U w i j).R i).us = (w.R i).us
 | 0 => ⟨W, rfl, rfl⟩
 | j + 1 => by
  obtain ⟨W1, l1, u1⟩ := lose_wf hi W j
  have hi1 : i < (loseTo U w i j).s.R.length := by omega
  have h1 := W1.rr _ (R_mem hi1)
  refine ⟨(W1.mv _ _).put ⟨okUnits_set h1.1 ⟨by decide, by decide⟩, h1.2⟩, ?_, ?_⟩
  ·show (Wk.put _ _ _).s.R.length = _
   rw [put_len]; exact l1
  ·show ((Wk.put _ _ _).R i).us = _
   rw [R_put (by exact hi1)]; exact u1
theorem loseP_wf {ss : List Sup} {i : Nat} (hi : i < w.s.R.length) (h : loseP ss U w i = .ok w') (W : w.wf U m) : w'.wf U (m + 2) ∧ w'.s.R.length = w.s.R.length := by
 obtain ⟨W1, l1, _⟩ := lose_wf hi W (w.R i).us.length
 have := settle_wf (by omega) h W1
 exact ⟨this.1, by omega⟩
theorem due_wf {ss : List Sup} {num : Int} (h : dueP ss U w num = .ok w') (W : w.wf U m) : w'.wf U (m + 2) ∧ w'.s.R.length = w.s.R.length := by
 unfold dueP at h
 split at h
 ·cases h
 ·rename_i r hr
  obtain ⟨i, _, hi, hil, rfl, _⟩ := at_spec hr
  rw [hi] at h
  split at h
  ·exact loseP_wf hil h W
  ·split at h
   ·have := end_wf h W
    exact ⟨this.1.up (by omega), this.2⟩
   ·cases h; exact ⟨W.up (by omega), rfl⟩
theorem fold_wf {α : Type} {f : Wk → α → Except Int Wk} {k : Nat} (hf : ∀ {m : Nat} {w w' : Wk} {x : α}, f w x = .ok w' → w.wf U m → w'.wf U (m + k) ∧ w'.s.R.length = w.s.R.length) :
  ∀ (l : List α) {m : Nat} {w w' : Wk}, foldE f w l = .ok w' → w.wf U m → w'.wf U (m + k * l.length) ∧ w'.s.R.length = w.s.R.length
 | [], m, w, w', h, W => by cases h; exact ⟨W, rfl⟩
 | x :: l, m, w, w', h, W => by
  obtain ⟨w1, h1, h2⟩ := bind_ok h
  have a := hf h1 W
  have b := fold_wf hf l h2 a.1
  refine ⟨b.1.up ?_, by omega⟩
  rw [l_f, Nat.mul_succ]; omega
theorem paid_wf {i : Nat} {sum : Int} {yes : Bool} (hi : i < w.s.R.length) (h : paidP w i sum yes = .ok w') (W : w.wf U m) : w'.wf U m ∧ w'.s.R.length = w.s.R.length := by
 unfold paidP at h
 split at h
 ·have h1 := post_wf h (W.putR (i := i) (r := { w.R i with paid := w64 ((w.R i).paid + sum) }) hi rfl rfl)
  exact ⟨h1.1, by rw [h1.2, put_len]⟩
 ·exact credit_wf hi h W
theorem shipped_wf {ss : List Sup} {i : Nat} {yes : Bool} (hi : i < w.s.R.length) (h : shippedP ss w i yes = .ok w') (W : w.wf U m) : w'.wf U (m + 1) ∧ w'.s.R.length = w.s.R.length := by
 unfold shippedP at h
 simp only at h
 split at h
 ·split at h
  ·have W1 := (W.putR (i := i) (r := { w.R i with given := w64 ((w.R i).given + (priceOf ss (w.R i).want).getD 0) }) hi rfl rfl)
   have h1 := post_wf h (W1.mv _ _)
   exact ⟨h1.1.up (by omega), by rw [h1.2]; exact put_len⟩
  ·cases h
 ·have := pay_wf (by rw [release_len]; exact hi) h (W.release hi)
  exact ⟨this.1, by rw [this.2, release_len]⟩
end
end
section
section
variable {U : List Unt} {m : Nat} {w w' : Wk}
theorem left_tries {now : Int} {O : List Msg} {x : Msg} (h : x ∈ leftOf now O) : ∃ y ∈ O, x.tries = y.tries ∨ x.tries = y.tries + 1 := by
 obtain ⟨y, hy, hx⟩ := List.mem_flatMap.1 h
 refine ⟨y, hy, ?_⟩
 unfold left1 at hx
 split at hx
 ·simp at hx; exact .inl (by rw [hx])
 ·split at hx
  ·cases hx
  ·simp at hx; exact .inr (by rw [hx]; rfl)
theorem set_mem {T : List Tm} {n d : Int} {x : Tm} (h : x ∈ setT T n d) : x.num = n ∨ x ∈ T := by
 unfold setT insT at h
 rcases List.mem_append.1 h with h | h
 ·exact .inr (List.mem_filter.1 (List.mem_of_mem_take h)).1
 ·rcases List.mem_cons.1 h with rfl | h
  ·exact .inl rfl
  ·exact .inr (List.mem_filter.1 (List.mem_of_mem_drop h)).1
theorem Wk.wf.setT (W : w.wf U m) {n d : Int} (hn : 1 ≤ n ∧ n ≤ w.s.R.length) : Wk.wf U m { w with s := { w.s with T := setT w.s.T n d } } :=
 ⟨W.kl, W.rl, W.rr, good_set W.tg n d, fun x hx => by
  rcases set_mem hx with h | h
  ·rw [h]; exact hn
  ·exact W.tn x h, W.ol, W.ot, W.key, W.sl, W.now⟩
theorem Wk.wf.stopT (W : w.wf U m) (n : Int) : Wk.wf U m { w with s := { w.s with T := MX.without w.s.T n } } :=
 ⟨W.kl, W.rl, W.rr, good_without W.tg n, fun x hx => W.tn x (without_num hx).1, W.ol, W.ot, W.key, W.sl, W.now⟩
theorem pick_wf {num : Int} (h : pickP w num = .ok w') (W : w.wf U m) : w'.wf U m ∧ w'.s.R.length = w.s.R.length := by
 obtain ⟨w1, h1, h⟩ := bind_ok h
 obtain ⟨W1, l1, i, hn, hi, hil, _⟩ := step_wf h1 W
 cases h
 obtain ⟨W2, r2⟩ := moves_wf (w1.R (num - 1).toNat).us 1 W1
 exact ⟨W2.setT ⟨by omega, by rw [r2]; omega⟩, by show (movesP _ _ _).s.R.length = _; rw [r2]; exact l1⟩
theorem receive_wf {num : Int} (h : receiveP w num = .ok w') (W : w.wf U m) : w'.wf U m ∧ w'.s.R.length = w.s.R.length := by
 obtain ⟨w1, h1, h⟩ := bind_ok h
 obtain ⟨W1, l1, i, hn, hi, hil, _⟩ := step_wf h1 W
 cases h
 obtain ⟨W2, r2⟩ := moves_wf (w1.R (num - 1).toNat).us 2 W1
 exact ⟨W2.stopT num, by show (movesP _ _ _).s.R.length = _; rw [r2]; exact l1⟩
theorem Wk.wf.late (W : w.wf U m) {now : Int} (hn : 0 ≤ now ∧ now ≤ 100000) : Wk.wf U m { w with s := { w.s with now := now, T := lateT w.s.T now } } :=
 ⟨W.kl, W.rl, W.rr, good_late W.tg now, fun x hx => W.tn x ((List.dropWhile_sublist _).subset hx), W.ol, W.ot, W.key, W.sl, hn⟩
theorem Wk.wf.left (W : w.wf U m) (now : Int) : Wk.wf U (m + 1) { w with s := { w.s with O := leftOf now w.s.O } } :=
 ⟨W.kl, W.rl, W.rr, W.tg, W.tn, by
  have h1 := flatMap_le (left1 now) (left1_le now) w.s.O
  have h2 := W.ol
  show (leftOf now w.s.O).length ≤ _
  unfold leftOf
  omega, fun x hx => by
  obtain ⟨y, hy, h⟩ := left_tries hx
  have := W.ot y hy
  omega, by have := W.key; show 1 ≤ w.s.key ∧ w.s.key ≤ _; omega, by have := W.sl; show w.sd.length ≤ _; omega, W.now⟩
theorem due_len (T : List Tm) (d : Int) : (dueT T d).length ≤ T.length := (List.takeWhile_sublist _).length_le
theorem tick_wf {ss : List Sup} {days : Int} {x : Wk × List Msg} (h : tickP ss U w days = .ok x) (W : w.wf U m) : x.1.wf U (m + 201) ∧ x.1.s.R.length = w.s.R.length ∧ x.2.length ≤ 70000 + m + 200 := by
 unfold tickP at h
 split at h
 ·cases h
 ·split at h
  ·cases h
  ·rename_i h1 h2
   have hnow := W.now
   obtain ⟨w1, h3, h⟩ := bind_ok h
   obtain ⟨w2, h4, rfl⟩ := map_ok h
   have a := fold_wf (k := 2) (fun h W => due_wf h W) _ h3 (W.late (now := w.s.now + days) ⟨by omega, by omega⟩)
   rw [l_z] at a
   have hd := due_len w.s.T (w.s.now + days)
   have htl := W.tl
   have W1 : w1.wf U (m + 200) := a.1.up (by omega)
   have b := fold_wf (k := 0) (f := fun w (x : Msg) => endP w x.rma 8) (fun h W => end_wf h W) _ h4 (W1.left (w.s.now + days))
   have e : w1.s.R.length = w.s.R.length := a.2
   have h5 := flatMap_le (said1 (w.s.now + days)) (said1_le _) w1.s.O
   have h6 := W1.ol
   exact ⟨b.1.up (by omega), by rw [b.2]; exact e, by show (saidOf _ _).length ≤ _; unfold saidOf; omega⟩
theorem reply_wf {ss : List Sup} {key : Int} {yes : Bool} (h : replyP ss w key yes = .ok w') (W : w.wf U m) : w'.wf U (m + 1) ∧ w'.s.R.length = w.s.R.length := by
 unfold replyP at h
 split at h
 ·cases h
 ·rename_i j hj
  simp only at h
  split at h
  ·cases h
  ·rename_i r hr
   obtain ⟨i, _, hi, hil, _, _⟩ := at_spec (w := { w with s := { w.s with O := w.s.O.take j ++ w.s.O.drop (j + 1) } }) hr
   rw [hi] at h
   have hsub : (w.s.O.take j ++ w.s.O.drop (j + 1)).Sublist w.s.O := by
    conv => rhs; rw [← List.take_append_drop j w.s.O]
    exact List.Sublist.append_left (by rw [← List.drop_drop]; exact List.drop_sublist _ _) _
   have W1 : Wk.wf U m { w with s := { w.s with O := w.s.O.take j ++ w.s.O.drop (j + 1) } } :=
    ⟨W.kl, W.rl, W.rr, W.tg, W.tn, Nat.le_trans hsub.length_le W.ol, fun x hx => W.ot x (hsub.subset hx), W.key, W.sl, W.now⟩
   split at h
   ·have := end_wf h W1
    exact ⟨this.1.up (by omega), this.2⟩
   ·obtain ⟨w2, h2, rfl⟩ := map_ok h
    have h3 : w2.wf U (m + 1) ∧ w2.s.R.length = w.s.R.length := by
     split at h2
     ·have := step_wf h2 W1
      exact ⟨this.1.up (by omega), this.2.1⟩
     ·split at h2
      ·have := paid_wf hil h2 W1
       exact ⟨this.1.up (by omega), this.2⟩
      ·split at h2
       ·have := shipped_wf hil h2 W1
        exact ⟨this.1, this.2⟩
       ·split at h2
        ·cases h2; exact ⟨(W1.mv _ _).up (by omega), rfl⟩
        ·cases h2
    have := close_wf (i := i) (by rw [h3.2]; exact hil) h3.1
    exact ⟨this.1, by omega⟩
theorem gradeE_ok {r : Ret} {unit grade : Int} {j : Nat} (h : gradeE r unit grade = .ok j) : r.right ∧ btw grade 0 4 ∧ j < r.us.length ∧ r.us.getD j 0 = unit ∧ r.gs.getD j 0 = -1 := by
 unfold gradeE at h
 split at h
 ·cases h
 ·rename_i hg
  have hgr0 : r.right ∧ btw grade 0 4 := of_dcd_true (by cases hd : dcd (r.right ∧ btw grade 0 4) with | false => exact absurd hd hg | true => rfl)
  split at h
  ·cases h
  ·rename_i k hk
   split at h
   ·cases h
   ·rename_i hn
    cases h
    rw [List.findIdx?_eq_some_iff_getElem] at hk
    obtain ⟨hl, h1, _⟩ := hk
    refine ⟨hgr0.1, hgr0.2, hl, ?_, ?_⟩
    ·rw [getD_at hl]; simpa using h1
    ·exact Classical.byContradiction fun h => hn h
theorem gradeK_wf {ps : List Pol} {ss : List Sup} {c : Cmd} {i j : Nat} (hil : i < w.s.R.length) (hgr : btw c.grade 0 4) (h : gradeK ps ss U w c i j = .ok w') (W : w.wf U m) : w'.wf U (m + 3) ∧ w'.s.R.length = w.s.R.length := by
 have hx := W.rr _ (R_mem hil)
 have W1 : (w.put i { w.R i with gs := (w.R i).gs.set j c.grade, worth := w64 ((w.R i).worth + wrt (polOf ps (untAt U c.unit).cat) (untAt U c.unit).share (w.R i).rea c.grade) }).wf U m :=
  W.put ⟨okUnits_set hx.1 ⟨by have := hgr.1; omega, hgr.2⟩, hx.2⟩
 unfold gradeK at h
 simp only at h
 generalize hw2 : (if (polOf ps (untAt U c.unit).cat).gto c.grade ≠ 0 then _ else _ : Wk) = w2 at h
 have h2 : w2.wf U (m + 1) ∧ w2.s.R.length = w.s.R.length := by
  rw [← hw2]
  split
  ·exact ⟨(W1.mv _ _).up (by omega), put_len⟩
  ·exact ⟨(W1.mv _ _).say _ _ _, put_len⟩
 split at h
 ·cases h; exact ⟨h2.1.up (by omega), h2.2⟩
 ·have := settle_wf (by rw [h2.2]; exact hil) h h2.1
  exact ⟨this.1, by omega⟩
theorem grade_wf {ps : List Pol} {ss : List Sup} {c : Cmd} (h : gradeP ps ss U w c = .ok w') (W : w.wf U m) : w'.wf U (m + 3) ∧ w'.s.R.length = w.s.R.length := by
 unfold gradeP at h
 split at h
 ·cases h
 ·rename_i r hr
  obtain ⟨i, _, hi, hil, rfl, _⟩ := at_spec hr
  rw [hi] at h
  split at h
  ·cases h
  ·split at h
   ·cases h
   ·rename_i j hj
    split at h
    ·cases h
    ·exact gradeK_wf hil (gradeE_ok hj).2.1 h W
theorem wanted_wf {ss : List Sup} {sku : Int} {x : Int × Wk} (h : wantedP ss w sku = .ok x) (W : w.wf U m) : x.2.wf U m ∧ x.2.s.R = w.s.R ∧ x.2.s.now = w.s.now := by
 unfold wantedP at h
 split at h
 ·cases h; exact ⟨W, rfl, rfl⟩
 ·split at h
  ·cases h
  ·split at h
   ·cases h
   ·cases h
    exact ⟨⟨by rw [← W.kl]; exact l_ak, W.rl, W.rr, W.tg, W.tn, W.ol, W.ot, W.key, W.sl, W.now⟩, rfl, rfl⟩
theorem request_wf {ps : List Pol} {os : List Odr} {ss : List Sup} {c : Cmd} {x : Int × Wk} (hU : U.length ≤ 200) (hc : 1 ≤ c.us.length ∧ c.us.length ≤ 200) (h : requestP ps os ss U w c = .ok x) (W : w.wf U m) : x.2.wf U (m + 1) := by
 unfold requestP at h
 split at h
 ·cases h
 ·split at h
  ·cases h
  ·split at h
   ·cases h
   ·rename_i h1 _ h2
    have hask : ∀ i, i < c.us.length → askUnit U c i := by
     unfold askedP at h2
     split at h2
     ·simp at h2
     ·rename_i hd
      exact of_dcd_true (by cases hd' : dcd (∀ i, i < c.us.length → askUnit U c i) with | false => exact absurd hd' hd | true => rfl)
    obtain ⟨y, h3, rfl⟩ := map_ok h
    obtain ⟨W1, r1, n1⟩ := wanted_wf h3 W
    apply Wk.wf.say
    refine ⟨W1.kl, ?_, ?_, good_set W1.tg _ _, ?_, W1.ol, W1.ot, W1.key, W1.sl, W1.now⟩
    ·show (w.s.R ++ _).length ≤ 100
     rw [l_m]
     simp
     omega
    ·intro r hr
     rcases List.mem_append.1 hr with hr | hr
     ·exact W.rr r hr
     ·rw [l_aa] at hr
      rw [hr]
      refine ⟨⟨⟨by simp only; omega, by simp only; omega⟩, by simp, fun k hk => ?_⟩, fun v hv => ?_⟩
      ·obtain ⟨a, b, c', d⟩ := hask k hk
       refine ⟨⟨b, by show c.us.getD k 0 ≤ 199; omega⟩, a, ?_⟩
       simp only [l_s, l_ag, l_r (show k < c.us.length from hk)]
       exact ⟨by show (-1 : Int) ≤ -1; decide, by show (-1 : Int) ≤ 4; decide⟩
      ·obtain ⟨k, hk, rfl⟩ := l_af hv
       obtain ⟨a, b, c', d⟩ := hask k hk
       rw [getD_at hk] at c'
       exact c'
    ·intro z hz
     have hl : ((w.s.R ++ [(⟨(w.s.R.length : Int) + 1, c.ord, c.rea, c.want, y.1, c.cred || c.us.any fun u => (polOf ps (untAt U u).cat).cre, 1, w.s.now, c.us, c.us.map fun _ => -1, 0, 0, 0, 0⟩ : Ret)]).length : Int) = w.s.R.length + 1 := by
      rw [l_m]; simp
     show 1 ≤ z.num ∧ z.num ≤ ((w.s.R ++ _).length : Int)
     rw [hl]
     rcases set_mem hz with h | h
     ·rw [h]; omega
     ·have := W1.tn z h
      rw [r1] at this
      omega
theorem do_wf {D : Cfg} {c : Cmd} {x : Int × List Msg × Wk} (hU : U.length ≤ 200) (hc : c.kind = 1 → 1 ≤ c.us.length ∧ c.us.length ≤ 200) (h : doP D U w c = .ok x) (W : w.wf U m) : x.2.2.wf U (m + 201) := by
 unfold doP at h
 split at h
 ·obtain ⟨y, h1, rfl⟩ := map_ok h
  exact (request_wf hU (hc (by assumption)) h1 W).up (by omega)
 ·split at h
  ·obtain ⟨y, h1, rfl⟩ := map_ok h
   exact (end_wf h1 W).1.up (by omega)
  ·split at h
   ·obtain ⟨y, h1, rfl⟩ := map_ok h
    exact (end_wf h1 W).1.up (by omega)
   ·split at h
    ·obtain ⟨y, h1, rfl⟩ := map_ok h
     exact (pick_wf h1 W).1.up (by omega)
    ·split at h
     ·obtain ⟨y, h1, rfl⟩ := map_ok h
      exact (receive_wf h1 W).1.up (by omega)
     ·split at h
      ·obtain ⟨y, h1, rfl⟩ := map_ok h
       exact (grade_wf h1 W).1.up (by omega)
      ·split at h
       ·obtain ⟨y, h1, rfl⟩ := map_ok h
        exact (tick_wf h1 W).1
       ·obtain ⟨y, h1, rfl⟩ := map_ok h
        exact (reply_wf h1 W).1.up (by omega)
def Sag.wf (U : List Unt) (m : Nat) (s : Sag) : Prop := Wk.wf U m ⟨s, []⟩
theorem take_wf {D : Cfg} {c : Cmd} {s : Sag} (hU : U.length ≤ 200) (W : s.wf U m) : (takeP D U s c).2.2.2.wf U (m + 201) := by
 unfold takeP
 split
 ·exact Wk.wf.up W (by omega)
 ·rename_i hd
  have hf : c.formed := of_dcd_true (by cases hd' : dcd c.formed with | false => exact absurd hd' hd | true => rfl)
  split
  ·exact Wk.wf.up W (by omega)
  ·rename_i x hx
   have := do_wf hU (fun hk => by
    have h := hf.1
    unfold Cmd.fits at h
    rw [if_pos hk] at h
    omega) hx W
   exact ⟨this.kl, this.rl, this.rr, this.tg, this.tn, this.ol, this.ot, this.key, Nat.zero_le _, this.now⟩
end
end
end Go.Proofs.YtcgbhcgfdcfmaaaGreat.MX
