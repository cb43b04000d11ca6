import Derived.Test.YtjagmebglhbdkaaGreatK25
namespace Go.Proofs.YtjagmebglhbdkaaGreat.MX
open Go Go.Proofs
set_option linter.unusedSimpArgs false
set_option linter.unusedVariables false
section
section
variable {U : List Unt} {m : Nat} {w w' : Wk}
theorem b2F {now : Int} {O : List Msg} {x : Msg} (h : x ∈ y7 now O) : ∃ y ∈ O, x.tries = y.tries ∨ x.tries = y.tries + 1 := by
 obtain ⟨y, hy, hx⟩ := List.mem_flatMap.1 h
 refine ⟨y, hy, ?_⟩
 unfold K1 at hx
 split at hx
 ·simp at hx; exact .inl (by rw [hx])
 ·split at hx
  ·cases hx
  ·simp at hx; exact .inr (by rw [hx]; rfl)
theorem a6c {T : List Tm} {n d : Int} {x : Tm} (h : x ∈ setT T n d) : x.num = n ∨ x ∈ T := by
 unfold setT b3u at h
 rcases List.mem_append.1 h with h | h
 ·exact .inr (List.mem_filter.1 (a1D h)).1
 ·rcases List.mem_cons.1 h with rfl | h
  ·exact .inl rfl
  ·exact .inr (List.mem_filter.1 (List.mem_of_mem_drop h)).1
theorem Wk.wf.setT (W : w.wf U m) {n d : Int} (hn : 1 ≤ n ∧ n ≤ w.s.R.length) : Wk.wf U m { w with s := { w.s with T := setT w.s.T n d } } :=
 ⟨W.kl, W.rl, W.rr, b0Z W.tg n d, fun x hx => by
  rcases a6c hx with h | h
  ·rw [h]; exact hn
  ·exact W.tn x h, W.ol, W.ot, W.key, W.sl, W.now⟩
theorem Wk.wf.stopT (W : w.wf U m) (n : Int) : Wk.wf U m { w with s := { w.s with T := MX.without w.s.T n } } :=
 ⟨W.kl, W.rl, W.rr, S8 W.tg n, fun x hx => W.tn x (N5 hx).1, W.ol, W.ot, W.key, W.sl, W.now⟩
theorem c1w {num : Int} (h : a2n w num = .ok w') (W : w.wf U m) : w'.wf U m ∧ w'.s.R.length = w.s.R.length := by
 obtain ⟨w1, h1, h⟩ := T4 h
 obtain ⟨W1, l1, i, hn, hi, hil, _⟩ := a2K h1 W
 cases h
 obtain ⟨W2, r2⟩ := W8 (w1.R (num - 1).toNat).us 1 W1
 exact ⟨W2.setT ⟨by omega, by rw [r2]; omega⟩, by show (s7 _ _ _).s.R.length = _; rw [r2]; exact l1⟩
theorem b2I {num : Int} (h : N3 w num = .ok w') (W : w.wf U m) : w'.wf U m ∧ w'.s.R.length = w.s.R.length := by
 obtain ⟨w1, h1, h⟩ := T4 h
 obtain ⟨W1, l1, i, hn, hi, hil, _⟩ := a2K h1 W
 cases h
 obtain ⟨W2, r2⟩ := W8 (w1.R (num - 1).toNat).us 2 W1
 exact ⟨W2.stopT num, by show (s7 _ _ _).s.R.length = _; rw [r2]; exact l1⟩
theorem Wk.wf.late (W : w.wf U m) {now : Int} (hn : 0 ≤ now ∧ now ≤ 100000) : Wk.wf U m { w with s := { w.s with now := now, T := N7 w.s.T now } } :=
 ⟨W.kl, W.rl, W.rr, b5r W.tg now, fun x hx => W.tn x ((List.dropWhile_sublist _).subset hx), W.ol, W.ot, W.key, W.sl, hn⟩
theorem Wk.wf.left (W : w.wf U m) (now : Int) : Wk.wf U (m + 1) { w with s := { w.s with O := y7 now w.s.O } } :=
 ⟨W.kl, W.rl, W.rr, W.tg, W.tn, by
  have h1 := E8 (K1 now) (a6F now) w.s.O
  have h2 := W.ol
  show (y7 now w.s.O).length ≤ _
  unfold y7
  omega, fun x hx => by
  obtain ⟨y, hy, h⟩ := b2F hx
  have := W.ot y hy
  omega, by have := W.key; show 1 ≤ w.s.key ∧ w.s.key ≤ _; omega, by have := W.sl; show w.sd.length ≤ _; omega, W.now⟩
theorem b4L (T : List Tm) (d : Int) : (O4 T d).length ≤ T.length := (List.takeWhile_sublist _).length_le
theorem b4x {ss : List Sup} {days : Int} {x : Wk × List Msg} (h : a1R ss U w days = .ok x) (W : w.wf U m) : x.1.wf U (m + 201) ∧ x.1.s.R.length = w.s.R.length ∧ x.2.length ≤ 70000 + m + 200 := by
 unfold a1R at h
 split at h
 ·cases h
 ·split at h
  ·cases h
  ·rename_i h1 h2
   have hnow := W.now
   obtain ⟨w1, h3, h⟩ := T4 h
   obtain ⟨w2, h4, rfl⟩ := t7 h
   have a := a9w (k := 2) (fun h W => b9S h W) _ h3 (W.late (now := w.s.now + days) ⟨by omega, by omega⟩)
   rw [l_z] at a
   have hd := b4L w.s.T (w.s.now + days)
   have htl := W.tl
   have W1 : w1.wf U (m + 200) := a.1.up (by omega)
   have b := a9w (k := 0) (f := fun w (x : Msg) => L6 w x.rma 8) (fun h W => a3A h W) _ h4 (W1.left (w.s.now + days))
   have e : w1.s.R.length = w.s.R.length := a.2
   have h5 := E8 (K2 (w.s.now + days)) (a4B _) w1.s.O
   have h6 := W1.ol
   exact ⟨b.1.up (by omega), by rw [b.2]; exact e, by show (x8 _ _).length ≤ _; unfold x8; omega⟩
theorem b7v {ss : List Sup} {key : Int} {yes : Bool} (h : X5 ss w key yes = .ok w') (W : w.wf U m) : w'.wf U (m + 1) ∧ w'.s.R.length = w.s.R.length := by
 unfold X5 at h
 split at h
 ·cases h
 ·rename_i j hj
  simp only at h
  split at h
  ·cases h
  ·rename_i r hr
   obtain ⟨i, _, hi, hil, _, _⟩ := Y6 (w := { w with s := { w.s with O := w.s.O.take j ++ w.s.O.drop (j + 1) } }) hr
   rw [hi] at h
   have hsub : (w.s.O.take j ++ w.s.O.drop (j + 1)).Sublist w.s.O := by
    conv => rhs; rw [← G5 j w.s.O]
    exact List.Sublist.append_left (by rw [← List.drop_drop]; exact List.drop_sublist _ _) _
   have W1 : Wk.wf U m { w with s := { w.s with O := w.s.O.take j ++ w.s.O.drop (j + 1) } } :=
    ⟨W.kl, W.rl, W.rr, W.tg, W.tn, X8 hsub.length_le W.ol, fun x hx => W.ot x (hsub.subset hx), W.key, W.sl, W.now⟩
   split at h
   ·have := a3A h W1
    exact ⟨this.1.up (by omega), this.2⟩
   ·obtain ⟨w2, h2, rfl⟩ := t7 h
    have h3 : w2.wf U (m + 1) ∧ w2.s.R.length = w.s.R.length := by
     split at h2
     ·have := a2K h2 W1
      exact ⟨this.1.up (by omega), this.2.1⟩
     ·split at h2
      ·have := b3G hil h2 W1
       exact ⟨this.1.up (by omega), this.2⟩
      ·split at h2
       ·have := a7o hil h2 W1
        exact ⟨this.1, this.2⟩
       ·split at h2
        ·cases h2; exact ⟨(W1.mv _ _).up (by omega), rfl⟩
        ·cases h2
    have := a7c (i := i) (by rw [h3.2]; exact hil) h3.1
    exact ⟨this.1, by omega⟩
theorem a5e {r : Ret} {unit grade : Int} {j : Nat} (h : N6 r unit grade = .ok j) : r.right ∧ btw grade 0 4 ∧ j < r.us.length ∧ r.us.getD j 0 = unit ∧ r.gs.getD j 0 = -1 := by
 unfold N6 at h
 split at h
 ·cases h
 ·rename_i hg
  have hgr0 : r.right ∧ btw grade 0 4 := n9 (by cases hd : dcd (r.right ∧ btw grade 0 4) with | false => exact absurd hd hg | true => rfl)
  split at h
  ·cases h
  ·rename_i k hk
   split at h
   ·cases h
   ·rename_i hn
    cases h
    rw [a7Z] at hk
    obtain ⟨hl, h1, _⟩ := hk
    refine ⟨hgr0.1, hgr0.2, hl, ?_, ?_⟩
    ·rw [l6 hl]; simpa using h1
    ·exact Classical.byContradiction fun h => hn h
theorem b5S {ps : List Pol} {ss : List Sup} {c : Cmd} {i j : Nat} (hil : i < w.s.R.length) (hgr : btw c.grade 0 4) (h : a0M ps ss U w c i j = .ok w') (W : w.wf U m) : w'.wf U (m + 3) ∧ w'.s.R.length = w.s.R.length := by
 have hx := W.rr _ (C2 hil)
 have W1 : (w.put i { w.R i with gs := (w.R i).gs.set j c.grade, worth := w64 ((w.R i).worth + wrt (C6 ps (j8 U c.unit).cat) (j8 U c.unit).share (w.R i).rea c.grade) }).wf U m :=
  W.put ⟨X4 hx.1 ⟨by have := hgr.1; omega, hgr.2⟩, hx.2⟩
 unfold a0M at h
 simp only at h
 generalize hw2 : (if (C6 ps (j8 U c.unit).cat).gto c.grade ≠ 0 then _ else _ : Wk) = w2 at h
 have h2 : w2.wf U (m + 1) ∧ w2.s.R.length = w.s.R.length := by
  rw [← hw2]
  split
  ·exact ⟨(W1.mv _ _).up (by omega), n8⟩
  ·exact ⟨(W1.mv _ _).say _ _ _, n8⟩
 split at h
 ·cases h; exact ⟨h2.1.up (by omega), h2.2⟩
 ·have := a8c (by rw [h2.2]; exact hil) h h2.1
  exact ⟨this.1, by omega⟩
theorem b6K {ps : List Pol} {ss : List Sup} {c : Cmd} (h : T5 ps ss U w c = .ok w') (W : w.wf U m) : w'.wf U (m + 3) ∧ w'.s.R.length = w.s.R.length := by
 unfold T5 at h
 split at h
 ·cases h
 ·rename_i r hr
  obtain ⟨i, _, hi, hil, rfl, _⟩ := Y6 hr
  rw [hi] at h
  split at h
  ·cases h
  ·split at h
   ·cases h
   ·rename_i j hj
    split at h
    ·cases h
    ·exact b5S hil (a5e hj).2.1 h W
theorem a5o {ss : List Sup} {sku : Int} {x : Int × Wk} (h : V4 ss w sku = .ok x) (W : w.wf U m) : x.2.wf U m ∧ x.2.s.R = w.s.R ∧ x.2.s.now = w.s.now := by
 unfold V4 at h
 split at h
 ·cases h; exact ⟨W, rfl, rfl⟩
 ·split at h
  ·cases h
  ·split at h
   ·cases h
   ·cases h
    exact ⟨⟨by rw [← W.kl]; exact R9, W.rl, W.rr, W.tg, W.tn, W.ol, W.ot, W.key, W.sl, W.now⟩, rfl, rfl⟩
theorem a1y {ps : List Pol} {os : List Odr} {ss : List Sup} {c : Cmd} {x : Int × Wk} (hU : U.length ≤ 200) (hc : 1 ≤ c.us.length ∧ c.us.length ≤ 200) (h : E1 ps os ss U w c = .ok x) (W : w.wf U m) : x.2.wf U (m + 1) := by
 unfold E1 at h
 split at h
 ·cases h
 ·split at h
  ·cases h
  ·split at h
   ·cases h
   ·rename_i h1 _ h2
    have hask : ∀ i, i < c.us.length → E2 U c i := by
     unfold O0 at h2
     split at h2
     ·simp at h2
     ·rename_i hd
      exact n9 (by cases hd' : dcd (∀ i, i < c.us.length → E2 U c i) with | false => exact absurd hd' hd | true => rfl)
    obtain ⟨y, h3, rfl⟩ := t7 h
    obtain ⟨W1, r1, n1⟩ := a5o h3 W
    apply Wk.wf.say
    refine ⟨W1.kl, ?_, ?_, b0Z W1.tg _ _, ?_, W1.ol, W1.ot, W1.key, W1.sl, W1.now⟩
    ·show (w.s.R ++ _).length ≤ 100
     rw [l_m]
     simp
     omega
    ·intro r hr
     rcases List.mem_append.1 hr with hr | hr
     ·exact W.rr r hr
     ·rw [V2] at hr
      rw [hr]
      refine ⟨⟨⟨by simp only; omega, by simp only; omega⟩, by simp, fun k hk => ?_⟩, fun v hv => ?_⟩
      ·obtain ⟨a, b, c', d⟩ := hask k hk
       refine ⟨⟨b, by show c.us.getD k 0 ≤ 199; omega⟩, a, ?_⟩
       simp only [l_s, a0K, l_r (show k < c.us.length from hk)]
       exact ⟨by show (-1 : Int) ≤ -1; decide, by show (-1 : Int) ≤ 4; decide⟩
      ·obtain ⟨k, hk, rfl⟩ := V0 hv
       obtain ⟨a, b, c', d⟩ := hask k hk
       rw [l6 hk] at c'
       exact c'
    ·intro z hz
     have hl : ((w.s.R ++ [(⟨(w.s.R.length : Int) + 1, c.ord, c.rea, c.want, y.1, c.cred || c.us.any fun u => (C6 ps (j8 U u).cat).cre, 1, w.s.now, c.us, c.us.map fun _ => -1, 0, 0, 0, 0⟩ : Ret)]).length : Int) = w.s.R.length + 1 := by
      rw [l_m]; simp
     show 1 ≤ z.num ∧ z.num ≤ ((w.s.R ++ _).length : Int)
     rw [hl]
     rcases a6c hz with h | h
     ·rw [h]; omega
     ·have := W1.tn z h
      rw [r1] at this
      omega
theorem b9L {D : Cfg} {c : Cmd} {x : Int × List Msg × Wk} (hU : U.length ≤ 200) (hc : c.kind = 1 → 1 ≤ c.us.length ∧ c.us.length ≤ 200) (h : doP D U w c = .ok x) (W : w.wf U m) : x.2.2.wf U (m + 201) := by
 unfold doP at h
 split at h
 ·obtain ⟨y, h1, rfl⟩ := t7 h
  exact (a1y hU (hc (by assumption)) h1 W).up (by omega)
 ·split at h
  ·obtain ⟨y, h1, rfl⟩ := t7 h
   exact (a3A h1 W).1.up (by omega)
  ·split at h
   ·obtain ⟨y, h1, rfl⟩ := t7 h
    exact (a3A h1 W).1.up (by omega)
   ·split at h
    ·obtain ⟨y, h1, rfl⟩ := t7 h
     exact (c1w h1 W).1.up (by omega)
    ·split at h
     ·obtain ⟨y, h1, rfl⟩ := t7 h
      exact (b2I h1 W).1.up (by omega)
     ·split at h
      ·obtain ⟨y, h1, rfl⟩ := t7 h
       exact (b6K h1 W).1.up (by omega)
      ·split at h
       ·obtain ⟨y, h1, rfl⟩ := t7 h
        exact (b4x h1 W).1
       ·obtain ⟨y, h1, rfl⟩ := t7 h
        exact (b7v h1 W).1.up (by omega)
def Sag.wf (U : List Unt) (m : Nat) (s : Sag) : Prop := Wk.wf U m ⟨s, []⟩
theorem c1y {D : Cfg} {c : Cmd} {s : Sag} (hU : U.length ≤ 200) (W : s.wf U m) : (O6 D U s c).2.2.2.wf U (m + 201) := by
 unfold O6
 split
 ·exact Wk.wf.up W (by omega)
 ·rename_i hd
  have hf : c.formed := n9 (by cases hd' : dcd c.formed with | false => exact absurd hd' hd | true => rfl)
  split
  ·exact Wk.wf.up W (by omega)
  ·rename_i x hx
   have := b9L hU (fun hk => by
    have h := hf.1
    unfold Cmd.fits at h
    rw [if_pos hk] at h
    omega) hx W
   exact ⟨this.kl, this.rl, this.rr, this.tg, this.tn, this.ol, this.ot, this.key, Nat.zero_le _, this.now⟩
end
end
def tol (r : Ret) : Int := r.paid + r.credd + r.given
def prc (ss : List Sup) (r : Ret) : Int := (s9 ss r.want).getD 0
def a1v (pr n : Int) (m : Msg) : Int := if m.rma = n then (if m.kind = 2 then m.value else if m.kind = 3 then pr else 0) else 0
def M9 (pr n : Int) (O : List Msg) : Int := (O.map (a1v pr n)).sum
def a1b (a b : Msg) : Prop := a.kind = b.kind ∧ ((a.kind = 1 ∨ a.kind = 3) ∧ a.rma = b.rma ∨ a.kind = 4 ∧ a.value = b.value)
structure c1P (D : Cfg) (U : List Unt) (i : Nat) (r : Ret) : Prop where
 num : r.num = i + 1
 ord : 0 ≤ r.ord ∧ r.ord < D.os.length
 rea : isR r.rea
 want : 0 ≤ r.want ∧ r.want ≤ 1000
 day : 0 ≤ r.day ∧ r.day ≤ 100000
 st : 1 ≤ r.state ∧ r.state ≤ 9
 uo : ∀ u ∈ r.us, (j8 U u).ord = r.ord
 g0 : r.state ≠ 4 → r.state ≠ 5 → r.state ≠ 6 → ∀ g ∈ r.gs, g = -1
 g4 : r.state = 4 → ∀ g ∈ r.gs, g ≤ 3
 g5 : r.state = 5 ∨ r.state = 6 → ∀ g ∈ r.gs, 0 ≤ g
 worth : r.worth = P8 D.ps U r
 pos : 0 ≤ r.paid ∧ 0 ≤ r.credd ∧ 0 ≤ r.given
 nil : r.state ≠ 5 → r.state ≠ 6 → tol r = 0
structure MsgI (w : Wk) (m : Msg) : Prop where
 rma : 1 ≤ m.rma ∧ m.rma ≤ w.s.R.length
 kind : 1 ≤ m.kind ∧ m.kind ≤ 4
 k1 : m.kind = 1 → (w.R (m.rma - 1).toNat).state = 1
 k2 : m.kind = 2 → (w.R (m.rma - 1).toNat).state = 5 ∧ 0 < m.value
 k3 : m.kind = 3 → (w.R (m.rma - 1).toNat).state = 5 ∧ m.value = (w.R (m.rma - 1).toNat).res ∧ 0 ≤ m.value ∧ i9 w.s.K m.value = 7
 k4 : m.kind = 4 → ((w.R (m.rma - 1).toNat).state = 4 ∨ (w.R (m.rma - 1).toNat).state = 5) ∧ i9 w.s.K m.value = 8 ∧ ∀ i < w.s.R.length, (w.R i).res ≠ m.value
def a1T (D : Cfg) (w : Wk) (e i : Nat) (r : Ret) : Prop := -1 ≤ r.res ∧ (0 ≤ r.res → r.state ≤ 6 ∧ (s9 D.ss r.want).isSome = true ∧
 ((i9 w.s.K r.res = 7 ∧ r.state ≤ 5 ∧ (r.state = 5 → i = e ∨ ∃ m ∈ w.s.O, m.kind = 3 ∧ m.rma = r.num)) ∨
  (i9 w.s.K r.res = 8 ∧ 5 ≤ r.state ∧ ∀ m ∈ w.s.O, m.kind = 3 → m.rma ≠ r.num)))
def there (st g p : Int) : Prop := (st = 1 ∨ st = 2 → p = 0) ∧ (st = 3 → p = 1) ∧ (st = 4 → (g < 0 → p = 2) ∧ (0 ≤ g → p ≠ 1 ∧ p ≠ 2))
def a1O (U : List Unt) (n : Nat) (u : KU) : Prop := (0 ≤ u.place ∧ u.place ≤ 8) ∧ (u.place = 2 → u.recv = true) ∧ (u.grad = true → u.recv = true) ∧ (0 ≤ (j8 U n).ord → 3 ≤ u.place ∧ u.place ≤ 5 ∨ u.place = 7 → u.grad = true)
def fin (r : Ret) : Prop := r.state = 5 ∨ r.state = 6
instance (r : Ret) : Decidable (fin r) := by unfold fin; exact inferInstance
def a1r (f : Ret → Int) (R : List Ret) : Int := (R.map f).sum
def a0C (r : Ret) : Int := if fin r then r.worth else 0
def a0G (r : Ret) : Int := if fin r then r.worth - tol r else 0
structure LedI (w : Wk) : Prop where
 a : w.s.led.a = - a1r a0C w.s.R
 b : w.s.led.b = a1r a0G w.s.R
 c : w.s.led.c = a1r Ret.paid w.s.R
 d : w.s.led.d = a1r Ret.credd w.s.R
 e : w.s.led.e = a1r Ret.given w.s.R
structure Inv (D : Cfg) (U : List Unt) (w : Wk) (e : Nat) (q : Int) : Prop where
 ret : ∀ i < w.s.R.length, c1P D U i (w.R i)
 msg : ∀ m ∈ w.s.O, MsgI w m
 cls : w.s.O.Pairwise fun a b => ¬ a1b a b
 res : ∀ i < w.s.R.length, a1T D w e i (w.R i)
 dst : ∀ i < w.s.R.length, ∀ j < w.s.R.length, i ≠ j → (w.R i).res = (w.R j).res → (w.R i).res = -1
 own : ∀ n < w.s.K.length, i9 w.s.K n = 7 → ∃ i < w.s.R.length, (w.R i).res = n
 flg : ∀ n < w.s.K.length, a1O U n (w.s.K.getD n KU0)
 thr : ∀ i < w.s.R.length, ∀ k < (w.R i).us.length, there (w.R i).state ((w.R i).gs.getD k 0) (i9 w.s.K ((w.R i).us.getD k 0))
 dsj : ∀ i < w.s.R.length, ∀ j < w.s.R.length, i ≠ j → (w.R i).state ≤ 5 → (w.R j).state ≤ 5 → ∀ u ∈ (w.R i).us, u ∉ (w.R j).us
 mon : ∀ i < w.s.R.length, fin (w.R i) → (w.R i).worth = tol (w.R i) + M9 (prc D.ss (w.R i)) (i + 1) w.s.O + if i = e then q else 0
 cl : ∀ i < w.s.R.length, (w.R i).state = 6 → j5 (i + 1) w.s.O = 0 ∧ i ≠ e
 op : ∀ i < w.s.R.length, (w.R i).state = 5 → i = e ∨ 0 < j5 (i + 1) w.s.O
 tim : ∀ x ∈ w.s.T, (1 ≤ x.num ∧ x.num ≤ w.s.R.length) ∧ 1 ≤ (w.R (x.num - 1).toNat).state ∧ (w.R (x.num - 1).toNat).state ≤ 3
 led : LedI w
section
section
variable {D : Cfg} {U : List Unt} {w : Wk} {e i : Nat} {q s : Int} {r : Ret} {K : List KU} {O : List Msg}
theorem R_f (hi : i < w.s.R.length) : (w.put i r).R = fun j => if j = i then r else w.R j := by
 funext j
 unfold Wk.R Wk.put
 simp only [l_s, List.getElem?_set]
 split
 ·rename_i h; subst h; simp [hi]
 ·rename_i h; rw [if_neg (fun e => h e.symm)]
theorem a1l {n : Nat} (hn : n < K.length) : i9 K n = (K.getD n KU0).place := by
 simp [i9, l_s, hn]
theorem b8v {n to m : Int} (hm : 0 ≤ m) : i9 (D9 K n to) m = if I5 K n to = 0 ∧ m = n then to else i9 K m := by
 unfold D9
 by_cases h : I5 K n to = 0
 ·rw [if_pos h]
  have hn : 0 ≤ n ∧ n < K.length := by
   unfold I5 at h
   split at h
   ·assumption
   ·simp at h
  unfold i9
  rw [if_pos hm, if_pos hm]
  by_cases hmn : m = n
  ·subst hmn
   have : m.toNat < K.length := by omega
   simp [h, List.getElem?_set, this, a5h]
  ·rw [if_neg (by omega)]
   rw [List.getElem?_set_ne (by omega)]
 ·rw [if_neg h, if_neg (by omega)]
theorem b1h (f : Ret → Int) : ∀ {R : List Ret} {i : Nat} (hi : i < R.length) (r : Ret), a1r f (R.set i r) = a1r f R - f (R.getD i Ret.zero) + f r
 | [], i, hi, _ => absurd hi (by simp)
 | x :: R, 0, _, r => by simp [a1r]; omega
 | x :: R, i + 1, hi, r => by
  have := b1h f (R := R) (i := i) (by simpa using hi) r
  simp only [a1r, l_i, H2, K7, List.getD_cons_succ] at this ⊢
  omega
theorem a7h (pr n : Int) (m : Msg) : M9 pr n (O ++ [m]) = M9 pr n O + a1v pr n m := by simp [M9]
theorem a1L (n : Int) (m : Msg) : j5 n (O ++ [m]) = j5 n O + if m.rma = n ∧ m.kind ≠ 1 then 1 else 0 := by
 unfold j5
 rw [List.filter_append, l_m]
 by_cases h : m.rma = n ∧ m.kind ≠ 1 <;> simp [h]
theorem a0y {W : Wk} (h : W.s.R = w.s.R.set i r) (hi : i < w.s.R.length) : (∀ j, W.R j = if j = i then r else w.R j) ∧ W.s.R.length = w.s.R.length ∧ ∀ f : Ret → Int, a1r f W.s.R = a1r f w.s.R - f (w.R i) + f r := by
 refine ⟨fun j => ?_, by rw [h]; simp, fun f => by rw [h]; exact b1h f hi r⟩
 have : W.R j = (w.put i r).R j := by unfold Wk.R; rw [h]; rfl
 rw [this, R_f hi]
theorem a2T (h : ∀ n < K.length, a1O U n (K.getD n KU0)) (n0 to : Int) : ∀ n < (D9 K n0 to).length, a1O U n ((D9 K n0 to).getD n KU0) := by
 intro n hn
 rw [O2] at hn
 have h1 := h n hn
 unfold D9
 split
 ·rename_i hm
  have hr : 0 ≤ n0 ∧ n0 < K.length := by
   unfold I5 at hm
   split at hm
   ·assumption
   ·simp at hm
  have hmay : I8 (i9 K n0) to := by
   unfold I5 at hm
   rw [if_pos hr] at hm
   split at hm
   ·assumption
   ·simp at hm
  rw [l_s, List.getElem?_set]
  split
  ·rename_i he
   have h2 := h n0.toNat (by omega)
   have hp := a1l (K := K) (n := n0.toNat) (by omega)
   rw [show ((n0.toNat : Nat) : Int) = n0 by omega] at hp
   rw [hp] at hmay
   subst he
   rw [if_pos (by omega)]
   generalize K.getD n0.toNat KU0 = u at *
   obtain ⟨pl, sk, rc, gd⟩ := u
   unfold a1O I8 at *
   simp only [a5h, Option.getD_some, Bool.or_eq_true, decide_eq_true_eq] at *
   clear h h1 hm
   rcases hmay with hm | hm | hm | hm | hm | hm <;> grind
  ·rw [← l_s]
   exact h1
 ·exact h1
theorem a3V {n to : Int} : I5 K n to = 0 ↔ I8 (i9 K n) to := by
 have : I8 (i9 K n) to → 0 ≤ n ∧ n < K.length := fun h => by
  unfold I8 i9 at h
  split at h
  ·by_cases hn : n.toNat < K.length
   ·omega
   ·rw [a0s (by omega)] at h
    simp at h
  ·omega
 unfold I5
 constructor
 ·intro h
  split at h
  ·split at h
   ·assumption
   ·simp at h
  ·simp at h
 ·intro h
  rw [if_pos (this h), if_pos h]
theorem a4R {n to m : Int} (hm : 0 ≤ m) : i9 (D9 K n to) m = if I8 (i9 K m) to ∧ m = n then to else i9 K m := by
 rw [b8v hm]
 by_cases h : m = n
 ·subst h
  simp only [a3V, and_true]
 ·rw [if_neg (fun x => h x.2), if_neg (fun x => h x.2)]
def a5g (K : List KU) (us : List Int) (to : Int) : List KU := us.foldl (fun K u => D9 K u to) K
theorem a0u {to m : Int} (hm : 0 ≤ m) (ht : ¬ I8 to to) : ∀ {us : List Int} {K : List KU}, i9 (a5g K us to) m = if I8 (i9 K m) to ∧ m ∈ us then to else i9 K m
 | [], K => by simp [a5g]
 | u :: us, K => by
  show i9 (a5g (D9 K u to) us to) m = _
  rw [a0u hm ht, a4R hm]
  grind
theorem a3u (to : Int) : ∀ {us : List Int} {K : List KU}, (∀ n < K.length, a1O U n (K.getD n KU0)) → (a5g K us to).length = K.length ∧ ∀ n < (a5g K us to).length, a1O U n ((a5g K us to).getD n KU0)
 | [], K, h => ⟨rfl, h⟩
 | u :: us, K, h => by
  have := a3u to (us := us) (a2T h u to)
  rw [O2] at this
  exact this
theorem J6 (to : Int) : ∀ (us : List Int) (w : Wk), s7 w us to = { w with s := { w.s with K := a5g w.s.K us to } }
 | [], w => rfl
 | u :: us, w => J6 to us (w.mv u to)
theorem V8 {n : Int} (h : i9 K n ≠ -1) : 0 ≤ n := by
 unfold i9 at h
 split at h
 ·assumption
 ·exact absurd rfl h
theorem a6n {pr n : Int} : ∀ {O : List Msg}, (∀ m ∈ O, m.rma = n → m.kind ≠ 2 ∧ m.kind ≠ 3) → M9 pr n O = 0
 | [], _ => rfl
 | m :: O, h => by
  have h1 := a6n (pr := pr) (n := n) (O := O) (fun x hx => h x (by simp [hx]))
  have h2 := h m (by simp)
  simp only [M9, H2, K7, a1v] at h1 ⊢
  rw [h1]
  split
  ·rw [if_neg (h2 (by assumption)).1, if_neg (h2 (by assumption)).2]; rfl
  ·rfl
theorem b2K {pr n : Int} (hp : 0 ≤ pr) : ∀ {O : List Msg}, (∀ m ∈ O, m.kind = 2 → 0 ≤ m.value) → 0 ≤ M9 pr n O
 | [], _ => Int.le_refl _
 | m :: O, h => by
  have h1 := b2K (n := n) hp (O := O) (fun x hx => h x (by simp [hx]))
  have h2 := h m (by simp)
  simp only [M9, H2, K7, a1v] at h1 ⊢
  split
  ·split
   ·have := h2 (by assumption); omega
   ·split <;> omega
  ·omega
theorem a1F {pr n : Int} {p : Msg → Bool} : ∀ {O : List Msg}, (∀ m ∈ O, p m = false → m.kind = 1 ∨ m.rma ≠ n) → M9 pr n (O.filter p) = M9 pr n O ∧ j5 n (O.filter p) = j5 n O
 | [], _ => ⟨rfl, rfl⟩
 | m :: O, h => by
  obtain ⟨h1, h3⟩ := a1F (pr := pr) (n := n) (p := p) (O := O) (fun x hx => h x (by simp [hx]))
  have h2 : p m = false → a1v pr n m = 0 ∧ ¬ (m.rma = n ∧ m.kind ≠ 1) := fun hp => by
   have := h m (by simp) hp
   unfold a1v
   grind
  simp only [M9, j5, H2, K7, List.filter_cons] at h1 h3 ⊢
  cases hp : p m with
  | false =>
   have := h2 hp
   simp only [hp, Bool.false_eq_true, if_false, decide_eq_true_eq, if_neg this.2]
   omega
  | true =>
   simp only [if_true, H2, K7, List.filter_cons]
   grind
theorem a5d {W : Wk} {p c g : Int} (I : Inv D U w i q) (hi : i < w.s.R.length) (h5 : (w.R i).state = 5) (hp : 0 ≤ p ∧ 0 ≤ c ∧ 0 ≤ g)
  (hR : W.s.R = w.s.R.set i { w.R i with paid := (w.R i).paid + p, credd := (w.R i).credd + c, given := (w.R i).given + g }) (hK : W.s.K = w.s.K) (hO : W.s.O = w.s.O) (hT : W.s.T = w.s.T) (hL : W.s.led = ⟨w.s.led.a, w.s.led.b - (p + c + g), w.s.led.c + p, w.s.led.d + c, w.s.led.e + g⟩) :
  Inv D U W i (q - (p + c + g)) := by
 obtain ⟨hR, hn, hs⟩ := a0y hR hi
 constructor
 case ret =>
  intro j hj
  have := I.ret j (by omega)
  rw [hR]
  split
  ·subst j
   exact { this with pos := by have := this.pos; simp only; omega, nil := fun h => absurd h5 h }
  ·exact this
 case msg =>
  intro m hm
  obtain ⟨a1, a2, a3, a4, a5, a6⟩ := I.msg m (by grind)
  constructor <;> grind
 case cls => grind [I.cls]
 case res =>
  intro j hj
  have := I.res j (by omega)
  grind [a1T]
 case dst => grind [I.dst]
 case own => grind [I.own]
 case flg => grind [I.flg]
 case thr => grind [I.thr]
 case dsj => grind [I.dsj]
 case mon =>
  intro j hj
  have := I.mon j (by omega)
  grind [fin, tol, prc]
 case cl => grind [I.cl]
 case op =>
  intro j hj
  have := I.op j (by omega)
  grind
 case tim =>
  intro x hx
  have := I.tim x (by grind)
  grind
 case led =>
  obtain ⟨a1, a2, a3, a4, a5⟩ := I.led
  constructor <;> rw [hs, hL] <;> simp only [a0C, a0G, fin, tol, h5, true_or, if_true] <;> omega
end
end
section
section
variable {D : Cfg} {U : List Unt} {w W : Wk} {e i : Nat} {q s : Int} {r : Ret} {K : List KU} {O : List Msg}
theorem b9c (I : Inv D U w e q) (hi : i < w.s.R.length) (h5 : (w.R i).state ≠ 5) (pr : Int) : M9 pr (i + 1) w.s.O = 0 := a6n fun m hm hr => by
 obtain ⟨a1, a2, a3, a4, a5, a6⟩ := I.msg m hm
 have : (m.rma - 1).toNat = i := by omega
 rw [this] at a4 a5
 exact ⟨fun h => h5 (a4 h).1, fun h => h5 (a5 h).1⟩
theorem b2L (I : Inv D U w e 0) (he : w.s.R.length ≤ e) (hi : i < w.s.R.length) (h4 : (w.R i).state = 4) (hg : ∀ g ∈ (w.R i).gs, 0 ≤ g)
  (hR : W.s.R = w.s.R.set i { w.R i with state := 5 }) (hK : W.s.K = w.s.K) (hO : W.s.O = w.s.O) (hT : W.s.T = w.s.T) (hL : W.s.led = ⟨w.s.led.a - (w.R i).worth, w.s.led.b + (w.R i).worth, w.s.led.c, w.s.led.d, w.s.led.e⟩) : Inv D U W i (w.R i).worth := by
 obtain ⟨hR, hn, hs⟩ := a0y hR hi
 have hd := b9c I hi (by omega) (prc D.ss (w.R i))
 have hI := I.ret i hi
 constructor
 case ret =>
  intro j hj
  rw [hR]
  split
  ·subst j
   exact { hI with st := by simp only; omega, g0 := fun _ h => absurd rfl h, g4 := fun h => by simp only at h; omega, g5 := fun _ => hg, nil := fun h => absurd rfl h }
  ·exact I.ret j (by omega)
 case msg =>
  intro m hm
  obtain ⟨a1, a2, a3, a4, a5, a6⟩ := I.msg m (by grind)
  constructor <;> grind
 case cls => grind [I.cls]
 case res =>
  intro j hj
  have := I.res j (by omega)
  grind [a1T]
 case dst => grind [I.dst]
 case own => grind [I.own]
 case flg => grind [I.flg]
 case thr =>
  intro j hj
  have := I.thr j (by omega)
  grind [there]
 case dsj => grind [I.dsj]
 case mon =>
  intro j hj
  have h1 := I.mon j (by omega)
  have h2 := hI.nil (by omega) (by omega)
  grind [fin, tol, prc]
 case cl =>
  intro j hj
  have := I.cl j (by omega)
  grind
 case op =>
  intro j hj
  have := I.op j (by omega)
  grind
 case tim =>
  intro x hx
  have := I.tim x (by grind)
  grind
 case led =>
  have h2 := hI.nil (by omega) (by omega)
  obtain ⟨a1, a2, a3, a4, a5⟩ := I.led
  unfold tol at h2
  constructor <;> rw [hs, hL] <;> simp [a0C, a0G, fin, tol, h4] <;> omega
theorem b6P {gs : List Int} {n : Int} (I : Inv D U w e 0) (he : w.s.R.length ≤ e) (hi : i < w.s.R.length) (h3 : (w.R i).state = 3) (hgl : gs.length = (w.R i).gs.length) (hul : (w.R i).gs.length = (w.R i).us.length) (hg : ∀ g ∈ gs, g = 4) (hw : n = P8 D.ps U { w.R i with gs := gs })
  (hR : W.s.R = w.s.R.set i { w.R i with state := 5, gs := gs, worth := n }) (hK : W.s.K = a5g w.s.K (w.R i).us 6) (hO : W.s.O = w.s.O) (hT : ∀ x ∈ W.s.T, x ∈ w.s.T ∧ x.num ≠ i + 1) (hL : W.s.led = ⟨w.s.led.a - n, w.s.led.b + n, w.s.led.c, w.s.led.d, w.s.led.e⟩) : Inv D U W i n := by
 obtain ⟨hR, hn, hs⟩ := a0y hR hi
 have hd := b9c I hi (by omega) (prc D.ss (w.R i))
 have hI := I.ret i hi
 obtain ⟨hkl, hfl⟩ := a3u (U := U) 6 (us := (w.R i).us) I.flg
 rw [← hK] at hkl hfl
 have hP : ∀ m, 0 ≤ m → i9 W.s.K m = if I8 (i9 w.s.K m) 6 ∧ m ∈ (w.R i).us then 6 else i9 w.s.K m := fun m hm => by rw [hK]; exact a0u hm (by decide)
 have h1 : ∀ u ∈ (w.R i).us, i9 w.s.K u = 1 := fun u hu => by
  obtain ⟨k, hk, rfl⟩ := V0 hu
  have := (I.thr i hi k hk).2.1 h3
  rwa [l6 hk] at this
 have hP7 : ∀ m, i9 w.s.K m = 7 ∨ i9 w.s.K m = 8 → i9 W.s.K m = i9 w.s.K m := fun m hm => by
  rw [hP m (V8 (K := w.s.K) (by omega)), if_neg (fun h => by have := h1 m h.2; omega)]
 have hP0 : ∀ m, m ∉ (w.R i).us → i9 W.s.K m = i9 w.s.K m := fun m hm => by
  by_cases h0 : 0 ≤ m
  ·rw [hP m h0, if_neg (fun h => hm h.2)]
  ·simp [i9, h0]
 have hP6 : ∀ m, i9 W.s.K m = 7 → i9 w.s.K m = 7 := fun m hm => by
  rw [hP m (V8 (K := W.s.K) (by omega))] at hm
  split at hm
  ·omega
  ·exact hm
 constructor
 case ret =>
  intro j hj
  rw [hR]
  split
  ·subst j
   exact { hI with st := by simp only; omega, g0 := fun _ h => absurd rfl h, g4 := fun h => by simp only at h; omega, g5 := fun _ g hm => by have := hg g hm; omega, worth := by simp only; rw [hw]; rfl, nil := fun h => absurd rfl h }
  ·exact I.ret j (by omega)
 case msg =>
  intro m hm
  obtain ⟨a1, a2, a3, a4, a5, a6⟩ := I.msg m (by grind)
  constructor <;> grind
 case cls => grind [I.cls]
 case res =>
  intro j hj
  have := I.res j (by omega)
  grind [a1T]
 case dst => grind [I.dst]
 case own =>
  intro n hn7 h7
  obtain ⟨j, hj, h⟩ := I.own n (by omega) (hP6 n h7)
  exact ⟨j, by omega, by rw [hR]; split <;> simp_all⟩
 case flg => exact hfl
 case thr =>
  intro j hj k hk
  rw [hR] at hk ⊢
  split at hk
  ·rename_i e; rw [if_pos e]; exact ⟨fun h => by simp at h, fun h => by simp at h, fun h => by simp at h⟩
  ·rename_i e
   rw [if_neg e]
   have h := I.thr j (by omega) k hk
   by_cases h5 : (w.R j).state ≤ 5
   ·rw [hP0 _ (I.dsj j (by omega) i hi e h5 (by omega) _ (by rw [l6 hk]; exact l_v hk))]; exact h
   ·exact ⟨fun h => by omega, fun h => by omega, fun h => by omega⟩
 case dsj => grind [I.dsj]
 case mon =>
  intro j hj
  have h1 := I.mon j (by omega)
  have h2 := hI.nil (by omega) (by omega)
  grind [fin, tol, prc]
 case cl =>
  intro j hj
  have := I.cl j (by omega)
  grind
 case op =>
  intro j hj
  have := I.op j (by omega)
  grind
 case tim =>
  intro x hx
  have := I.tim x (hT x hx).1
  have := (hT x hx).2
  grind
 case led =>
  have h2 := hI.nil (by omega) (by omega)
  obtain ⟨a1, a2, a3, a4, a5⟩ := I.led
  unfold tol at h2
  constructor <;> rw [hs, hL] <;> simp [a0C, a0G, fin, tol, h3] <;> omega
end
end
section
section
variable {D : Cfg} {U : List Unt} {w W : Wk} {e i : Nat} {q s : Int} {r : Ret} {K : List KU} {O : List Msg}
theorem b4G {m : Msg} (I : Inv D U w i q) (hi : i < w.s.R.length) (h5 : (w.R i).state = 5) (hm : m.rma = i + 1)
  (hk : m.kind = 2 ∧ 0 < m.value ∧ s = m.value ∨ m.kind = 3 ∧ m.value = (w.R i).res ∧ 0 ≤ m.value ∧ i9 w.s.K m.value = 7 ∧ (∀ x ∈ w.s.O, x.kind = 3 → x.rma ≠ i + 1) ∧ s = prc D.ss (w.R i))
  (hR : W.s.R = w.s.R) (hK : W.s.K = w.s.K) (hO : W.s.O = w.s.O ++ [m]) (hT : W.s.T = w.s.T) (hL : W.s.led = w.s.led) : Inv D U W i (q - s) := by
 have hx : W.R = w.R := by unfold Wk.R; rw [hR]
 have hn : W.s.R.length = w.s.R.length := by rw [hR]
 have hx2 : ∀ j, W.R j = w.R j := fun j => by rw [hx]
 have hd : ∀ pr n, M9 pr n W.s.O = M9 pr n w.s.O + a1v pr n m := fun pr n => by rw [hO]; exact a7h pr n m
 have hw : ∀ n, j5 n W.s.O = j5 n w.s.O + if m.rma = n ∧ m.kind ≠ 1 then 1 else 0 := fun n => by rw [hO]; exact a1L n m
 have hnum : (w.R i).num = i + 1 := (I.ret i hi).num
 constructor
 case ret => rw [hx, hR]; exact I.ret
 case msg =>
  intro x hx'
  rw [hO] at hx'
  rcases List.mem_append.1 hx' with h | h
  ·obtain ⟨a1, a2, a3, a4, a5, a6⟩ := I.msg x h
   generalize hj : (x.rma - 1).toNat = j at *
   constructor <;> (try rw [hj]) <;> grind
  ·obtain rfl := List.mem_singleton.1 h
   have : (x.rma - 1).toNat = i := by omega
   constructor <;> (try rw [this]) <;> grind
 case cls =>
  rw [hO, a1g]
  refine ⟨I.cls, by simp, fun a ha b hb => ?_⟩
  obtain rfl := List.mem_singleton.1 hb
  unfold a1b
  grind
 case res =>
  intro j hj
  have := I.res j (by omega)
  have := (I.ret j (by omega)).num
  grind [a1T]
 case dst => rw [hx, hR]; exact I.dst
 case own => rw [hx, hR, hK]; exact I.own
 case flg => rw [hK]; exact I.flg
 case thr => rw [hx, hR, hK]; exact I.thr
 case dsj => rw [hx, hR]; exact I.dsj
 case mon =>
  intro j hj
  have h1 := I.mon j (by omega)
  rw [hx, hd]
  unfold a1v
  grind
 case cl =>
  intro j hj
  have := I.cl j (by omega)
  grind
 case op =>
  intro j hj
  have := I.op j (by omega)
  grind
 case tim => rw [hx, hT, hR]; exact I.tim
 case led =>
  obtain ⟨a1, a2, a3, a4, a5⟩ := I.led
  constructor <;> rw [hL, hR] <;> assumption
theorem a5v (I : Inv D U w i q) (hi : i < w.s.R.length) (h5 : (w.R i).state = 5) (hr : 0 ≤ (w.R i).res) (h7 : i9 w.s.K (w.R i).res = 7) (hno : ∀ x ∈ w.s.O, x.kind = 3 → x.rma ≠ i + 1)
  (hR : W.s.R = w.s.R.set i { w.R i with res := -1 }) (hK : W.s.K = D9 w.s.K (w.R i).res 3) (hO : W.s.O = w.s.O) (hT : W.s.T = w.s.T) (hL : W.s.led = w.s.led) : Inv D U W i q := by
 obtain ⟨hR, hn, hs⟩ := a0y hR hi
 have hI := I.ret i hi
 have hfl := a2T (U := U) I.flg (w.R i).res 3
 have hkl : W.s.K.length = w.s.K.length := by rw [hK]; exact O2 _ _ _
 rw [← hK] at hfl
 have hP : ∀ m, 0 ≤ m → i9 W.s.K m = if m = (w.R i).res then 3 else i9 w.s.K m := fun m hm => by
  rw [hK, a4R hm]
  by_cases h : m = (w.R i).res
  ·subst h; rw [if_pos ⟨by rw [h7]; decide, rfl⟩, if_pos rfl]
  ·rw [if_neg (fun x => h x.2), if_neg h]
 have hN : ∀ m, ¬ 0 ≤ m → i9 W.s.K m = i9 w.s.K m := fun m h0 => by simp [i9, h0]
 constructor
 case ret =>
  intro j hj
  rw [hR]
  split
  ·subst j
   exact { hI with num := hI.num }
  ·exact I.ret j (by omega)
 case msg =>
  intro m hm
  obtain ⟨a1, a2, a3, a4, a5, a6⟩ := I.msg m (by grind)
  have hd := I.dst i hi (m.rma - 1).toNat (by omega)
  have h8 := fun h : i9 w.s.K m.value = 8 => V8 (K := w.s.K) (n := m.value) (by omega)
  constructor <;> grind
 case cls => grind [I.cls]
 case res =>
  intro j hj
  have := I.res j (by omega)
  have := I.dst i hi j (by omega)
  grind [a1T]
 case dst =>
  intro j hj k hk
  have := I.dst j (by omega) k (by omega)
  have := (I.res j (by omega)).1
  grind
 case own =>
  intro n hn' h
  have := I.own n (by omega)
  grind
 case flg => exact hfl
 case thr =>
  intro j hj k hk
  rw [hR] at hk ⊢
  have h := I.thr j (by omega) k (by split at hk <;> simp_all)
  by_cases e : j = i
  ·rw [if_pos e]
   exact ⟨fun h => by simp only at h; omega, fun h => by simp only at h; omega, fun h => by simp only at h; omega⟩
  ·rw [if_neg e]
   generalize (w.R j).us.getD k 0 = u at *
   unfold there at *
   grind
 case dsj => grind [I.dsj]
 case mon =>
  intro j hj
  have h1 := I.mon j (by omega)
  grind [fin, tol, prc]
 case cl =>
  intro j hj
  have := I.cl j (by omega)
  grind
 case op =>
  intro j hj
  have := I.op j (by omega)
  grind
 case tim =>
  intro x hx
  have := I.tim x (by grind)
  grind
 case led =>
  obtain ⟨a1, a2, a3, a4, a5⟩ := I.led
  constructor <;> rw [hs, hL] <;> simp [a0C, a0G, fin, tol, h5] <;> omega
theorem Z5 (I : Inv D U w i 0) (hi : i < w.s.R.length) (h45 : (w.R i).state = 4 ∨ (w.R i).state = 5) (he : w.s.R.length ≤ e) (h3 : 0 ≤ (w.R i).res → (w.R i).state = 5 → i9 w.s.K (w.R i).res = 7 → ∃ m ∈ w.s.O, m.kind = 3 ∧ m.rma = i + 1) : Inv D U (x9 w i) e 0 := by
 have hI := I.ret i hi
 unfold x9
 split
 ·rename_i hc
  rw [hI.num] at hc
  have hRR : (w.put i { w.R i with state := 6 }).s.R = w.s.R.set i { w.R i with state := 6 } := rfl
  obtain ⟨hR, hn, hs⟩ := a0y hRR hi
  have hno : ∀ m ∈ w.s.O, m.rma = i + 1 → m.kind = 1 := fun m hm hr => by
   have := hc.2
   unfold j5 at this
   rw [List.length_eq_zero_iff, List.filter_eq_nil_iff] at this
   have := this m hm
   simp only [decide_eq_true_eq] at this
   omega
  have hdue : M9 (prc D.ss (w.R i)) (i + 1) w.s.O = 0 := a6n fun m hm hr => by have := hno m hm hr; omega
  constructor
  case ret =>
   intro j hj
   rw [hR]
   split
   ·subst j
    exact { hI with st := by simp only; omega, g0 := fun _ _ h => absurd rfl h, g4 := fun h => by simp only at h; omega, g5 := fun _ => hI.g5 (.inl hc.1), nil := fun _ h => absurd rfl h }
   ·exact I.ret j (by omega)
  case msg =>
   intro m hm
   obtain ⟨a1, a2, a3, a4, a5, a6⟩ := I.msg m hm
   have := hno m hm
   show MsgI (w.put i { w.R i with state := 6 }) m
   constructor <;> grind [Wk.put]
  case cls => exact I.cls
  case res =>
   intro j hj
   have := I.res j (by omega)
   have : (w.put i { w.R i with state := 6 }).s.K = w.s.K := rfl
   have : (w.put i { w.R i with state := 6 }).s.O = w.s.O := rfl
   grind [a1T]
  case dst => grind [I.dst]
  case own =>
   intro n hn' h
   have := I.own n hn' h
   grind
  case flg => exact I.flg
  case thr =>
   intro j hj
   have := I.thr j (by omega)
   have : (w.put i { w.R i with state := 6 }).s.K = w.s.K := rfl
   grind [there]
  case dsj => grind [I.dsj]
  case mon =>
   intro j hj
   have h1 := I.mon j (by omega)
   have : (w.put i { w.R i with state := 6 }).s.O = w.s.O := rfl
   grind [fin, tol, prc]
  case cl =>
   intro j hj
   have := I.cl j (by omega)
   have : (w.put i { w.R i with state := 6 }).s.O = w.s.O := rfl
   grind
  case op =>
   intro j hj
   have := I.op j (by omega)
   have : (w.put i { w.R i with state := 6 }).s.O = w.s.O := rfl
   grind
  case tim =>
   intro x hx
   have := I.tim x hx
   grind
  case led =>
   obtain ⟨a1, a2, a3, a4, a5⟩ := I.led
   have hm := I.mon i hi (.inl hc.1)
   constructor <;> rw [hs] <;> simp [Wk.put, a0C, a0G, fin, tol, hc.1] <;> omega
 ·rename_i hc
  rw [hI.num] at hc
  exact { I with
   res := fun j hj => by
    have := I.res j hj
    have := (I.ret j hj).num
    grind [a1T]
   mon := fun j hj hf => by
    have := I.mon j hj hf
    rw [this]
    simp
   cl := fun j hj h6 => ⟨(I.cl j hj h6).1, by omega⟩
   op := fun j hj h5 => by
    have := I.op j hj h5
    grind }
end
end
end Go.Proofs.YtjagmebglhbdkaaGreat.MX
