import Derived.Test.YtcgbhcgfdcfmaaaGreatK25
namespace Go.Proofs.YtcgbhcgfdcfmaaaGreat.MX
open Go Go.Proofs
set_option linter.unusedSimpArgs false
set_option linter.unusedVariables false
section
structure Stc (D : Cfg) (U : List Unt) : Prop where
 cfg : okCfg D
 sh : shOk U
 cat : ∀ u ∈ U, 0 ≤ u.cat
 ul : U.length ≤ 200
structure Wk.wf (U : List Unt) (m : Nat) (w : Wk) : Prop where
 kl : w.s.K.length = U.length
 rl : w.s.R.length ≤ 100
 rr : ∀ r ∈ w.s.R, okUnits r.us r.gs ∧ ∀ v ∈ r.us, v < U.length
 tg : GoodT w.s.T
 tn : ∀ x ∈ w.s.T, 1 ≤ x.num ∧ x.num ≤ w.s.R.length
 ol : w.s.O.length ≤ 70000 + m
 ot : ∀ x ∈ w.s.O, 0 ≤ x.tries ∧ x.tries ≤ 70000 + m
 key : 1 ≤ w.s.key ∧ w.s.key ≤ 8589934592 + m
 sl : w.sd.length ≤ m
 now : 0 ≤ w.s.now ∧ w.s.now ≤ 100000
theorem nums_le : ∀ (n : Nat) (L : List Int), L.Nodup → (∀ x ∈ L, 1 ≤ x ∧ x ≤ n) → L.length ≤ n
 | 0, [], _, _ => Nat.le_refl _
 | 0, x :: L, _, h => by have := h x (by simp); omega
 | n + 1, L, hn, h => by
  have h1 := nums_le n (L.erase ((n + 1 : Nat) : Int)) (hn.erase _) (fun x hx => by
   have hm := List.mem_of_mem_erase hx
   have hne : x ≠ ((n + 1 : Nat) : Int) := fun e => by
    rw [e] at hx
    exact (List.Nodup.not_mem_erase hn) hx
   have := h x hm
   omega)
  have h2 := List.length_erase (a := ((n + 1 : Nat) : Int)) (l := L)
  split at h2 <;> omega
section
variable {U : List Unt} {m : Nat} {w w' : Wk}
theorem Wk.wf.tl (W : w.wf U m) : w.s.T.length ≤ 100 := by
 have h := nums_le w.s.R.length (w.s.T.map Tm.num) (by
  rw [List.Nodup, List.pairwise_map]
  exact W.tg.2) (by
  intro x hx
  obtain ⟨y, hy, rfl⟩ := List.mem_map.1 hx
  exact W.tn y hy)
 rw [l_z] at h
 exact Nat.le_trans h W.rl
theorem Wk.wf.up (W : w.wf U m) {m' : Nat} (h : m ≤ m') : w.wf U m' :=
 ⟨W.kl, W.rl, W.rr, W.tg, W.tn, by have := W.ol; omega, fun x hx => by have := W.ot x hx; omega, by have := W.key; omega, by have := W.sl; omega, W.now⟩
theorem Wk.wf.len (W : w.wf U m) : ∀ r ∈ w.s.R, r.us.length ≤ 200 ∧ r.gs.length = r.us.length := fun r hr => by
 have h := (W.rr r hr).1
 have h1 := h.1.2
 exact ⟨by omega, h.2.1⟩
theorem R_mem {i : Nat} (hi : i < w.s.R.length) : w.R i ∈ w.s.R := by
 unfold Wk.R
 rw [l_s, l_r hi]
 exact l_v hi
theorem R_put {i : Nat} {r : Ret} (hi : i < w.s.R.length) : (w.put i r).R i = r := by
 unfold Wk.R Wk.put
 simp [hi]
theorem put_len {i : Nat} {r : Ret} : (w.put i r).s.R.length = w.s.R.length := by simp [Wk.put]
theorem Wk.wf.put (W : w.wf U m) {i : Nat} {r : Ret} (h : okUnits r.us r.gs ∧ ∀ v ∈ r.us, v < U.length) : (w.put i r).wf U m :=
 ⟨W.kl, by rw [put_len]; exact W.rl, fun x hx => by
  rcases List.mem_or_eq_of_mem_set hx with hx | hx
  ·exact W.rr x hx
  ·rw [hx]; exact h, W.tg, fun x hx => by have := W.tn x hx; rw [put_len]; exact this, W.ol, W.ot, W.key, W.sl, W.now⟩
theorem Wk.wf.putR (W : w.wf U m) {i : Nat} {r : Ret} (hi : i < w.s.R.length) (h1 : r.us = (w.R i).us) (h2 : r.gs = (w.R i).gs) : (w.put i r).wf U m :=
 W.put (by rw [h1, h2]; exact W.rr _ (R_mem hi))
theorem moveK_len (K : List KU) (n to : Int) : (moveK K n to).length = K.length := by
 unfold moveK
 split <;> simp
theorem Wk.wf.mv (W : w.wf U m) (n to : Int) : (w.mv n to).wf U m :=
 ⟨by rw [← W.kl]; exact moveK_len _ _ _, W.rl, W.rr, W.tg, W.tn, W.ol, W.ot, W.key, W.sl, W.now⟩
theorem Wk.wf.led (W : w.wf U m) (l : Led) : (w.led l).wf U m := ⟨W.kl, W.rl, W.rr, W.tg, W.tn, W.ol, W.ot, W.key, W.sl, W.now⟩
theorem Wk.wf.say (W : w.wf U m) (k n v : Int) : (sayP w k n v).wf U (m + 1) :=
 ⟨W.kl, W.rl, W.rr, W.tg, W.tn, by have := W.ol; simp only [sayP, l_m, l_f, l_g]; omega, fun x hx => by
  rcases List.mem_append.1 hx with hx | hx
  ·have := W.ot x hx; omega
  ·rw [l_aa] at hx; rw [hx]; exact ⟨by show (0 : Int) ≤ 1; decide, by show (1 : Int) ≤ _; omega⟩, by have := W.key; simp only [sayP]; omega, by have := W.sl; simp only [sayP, l_m, l_f, l_g]; omega, W.now⟩
theorem release_len (w : Wk) (i : Nat) : (releaseP w i).s.R.length = w.s.R.length := by
 unfold releaseP
 split
 ·rw [put_len]; rfl
 ·rfl
theorem Wk.wf.release (W : w.wf U m) {i : Nat} (hi : i < w.s.R.length) : (releaseP w i).wf U m := by
 unfold releaseP
 split
 ·exact (W.mv _ _).putR hi rfl rfl
 ·exact W
theorem Wk.wf.without (W : w.wf U m) (n : Int) (O : List Msg) (hO : O.Sublist w.s.O) : Wk.wf U m { w with s := { w.s with T := without w.s.T n, O := O } } :=
 ⟨W.kl, W.rl, W.rr, good_without W.tg n, fun x hx => W.tn x (without_num hx).1, Nat.le_trans hO.length_le W.ol, fun x hx => W.ot x (hO.subset hx), W.key, W.sl, W.now⟩
theorem at_spec {n : Int} {r : Ret} (h : w.s.at_ n = some r) : ∃ i : Nat, n = (i : Int) + 1 ∧ (n - 1).toNat = i ∧ i < w.s.R.length ∧ w.R i = r ∧ w.s.R[i]? = some r := by
 unfold Sag.at_ at h
 split at h
 ·rename_i h1
  have hlt : (n - 1).toNat < w.s.R.length := by
   by_cases hl : (n - 1).toNat < w.s.R.length
   ·exact hl
   ·rw [List.getElem?_eq_none (by omega)] at h; cases h
  refine ⟨(n - 1).toNat, by omega, rfl, hlt, ?_, h⟩
  unfold Wk.R
  rw [l_s, h]
  rfl
 ·cases h
theorem bind_ok {α β : Type} {x : Except Int α} {f : α → Except Int β} {y : β} (h : x.bind f = .ok y) : ∃ z, x = .ok z ∧ f z = .ok y := by
 cases x with
 | error e => cases h
 | ok z => exact ⟨z, rfl, h⟩
theorem map_ok {α β : Type} {x : Except Int α} {f : α → β} {y : β} (h : x.map f = .ok y) : ∃ z, x = .ok z ∧ f z = y := by
 cases x with
 | error e => cases h
 | ok z => exact ⟨z, rfl, by cases h; rfl⟩
theorem end_wf {num by_ : Int} (h : endP w num by_ = .ok w') (W : w.wf U m) : w'.wf U m ∧ w'.s.R.length = w.s.R.length := by
 unfold endP at h
 split at h
 ·cases h
 ·rename_i r hr
  obtain ⟨i, _, hi, hil, rfl, _⟩ := at_spec hr
  rw [hi] at h
  split at h
  ·cases h
  ·rename_i st hst
   cases h
   have h1 : (releaseP (w.put i { w.R i with state := st }) i).s.R.length = w.s.R.length := by rw [release_len, put_len]
   have W1 := (W.putR (i := i) (r := { w.R i with state := st }) hil rfl rfl).release (i := i) (by rw [put_len]; exact hil)
   exact ⟨W1.without num _ List.filter_sublist, h1⟩
theorem step_wf {num by_ : Int} (h : stepP w num by_ = .ok w') (W : w.wf U m) : w'.wf U m ∧ w'.s.R.length = w.s.R.length ∧ ∃ i : Nat, num = (i : Int) + 1 ∧ (num - 1).toNat = i ∧ i < w.s.R.length ∧ (w'.R i).us = (w.R i).us ∧ (w'.R i).gs = (w.R i).gs := by
 unfold stepP at h
 split at h
 ·cases h
 ·rename_i r hr
  obtain ⟨i, hn, hi, hil, rfl, _⟩ := at_spec hr
  rw [hi] at h
  split at h
  ·cases h
  ·rename_i st hst
   cases h
   exact ⟨W.putR hil rfl rfl, put_len, i, hn, hi, hil, by rw [R_put hil], by rw [R_put hil]⟩
theorem moves_wf (us : List Int) (to : Int) : ∀ {w : Wk}, w.wf U m → (movesP w us to).wf U m ∧ (movesP w us to).s.R = w.s.R := by
 induction us with
 | nil => intro w W; exact ⟨W, rfl⟩
 | cons u us ih =>
  intro w W
  have := ih (W.mv u to)
  exact ⟨this.1, this.2⟩
theorem post_wf {a b sum : Int} (h : wpost w a b sum = .ok w') (W : w.wf U m) : w'.wf U m ∧ w'.s.R = w.s.R := by
 obtain ⟨l, _, rfl⟩ := map_ok h
 exact ⟨W.led l, rfl⟩
theorem credit_wf {i : Nat} {sum : Int} (hi : i < w.s.R.length) (h : creditP w i sum = .ok w') (W : w.wf U m) : w'.wf U m ∧ w'.s.R.length = w.s.R.length := by
 have h1 := post_wf h (W.putR (i := i) (r := { w.R i with credd := w64 ((w.R i).credd + sum) }) hi rfl rfl)
 exact ⟨h1.1, by rw [h1.2, put_len]⟩
theorem pay_wf {i : Nat} {sum : Int} (hi : i < w.s.R.length) (h : payP w i sum = .ok w') (W : w.wf U m) : w'.wf U (m + 1) ∧ w'.s.R.length = w.s.R.length := by
 unfold payP at h
 split at h
 ·cases h; exact ⟨W.up (by omega), rfl⟩
 ·split at h
  ·have := credit_wf hi h W
   exact ⟨this.1.up (by omega), this.2⟩
  ·cases h; exact ⟨W.say _ _ _, rfl⟩
theorem close_wf {i : Nat} (hi : i < w.s.R.length) (W : w.wf U m) : (closeP w i).wf U m ∧ (closeP w i).s.R.length = w.s.R.length := by
 unfold closeP
 split
 ·exact ⟨W.putR hi rfl rfl, put_len⟩
 ·exact ⟨W, rfl⟩
theorem settle_wf {ss : List Sup} {i : Nat} {by_ : Int} (hi : i < w.s.R.length) (h : settleP ss w i by_ = .ok w') (W : w.wf U m) : w'.wf U (m + 2) ∧ w'.s.R.length = w.s.R.length := by
 unfold settleP at h
 split at h
 ·cases h
 ·rename_i st hst
  obtain ⟨w1, h1, h⟩ := bind_ok h
  obtain ⟨W1, l1⟩ := post_wf h1 (W.putR (i := i) (r := { w.R i with state := st }) hi rfl rfl)
  have l1 : w1.s.R.length = w.s.R.length := by rw [l1, put_len]
  have hi1 : i < w1.s.R.length := by omega
  obtain ⟨w2, h2, rfl⟩ := map_ok h
  have h3 : w2.wf U (m + 2) ∧ w2.s.R.length = w1.s.R.length := by
   split at h2
   ·split at h2
    ·have := pay_wf (by rw [release_len]; exact hi1) h2 (W1.release hi1)
     exact ⟨this.1.up (by omega), by rw [this.2, release_len]⟩
    ·have := pay_wf (w := sayP w1 3 (w1.R i).num (w1.R i).res) hi1 h2 (W1.say _ _ _)
     exact ⟨this.1, by rw [this.2]; rfl⟩
   ·have := pay_wf hi1 h2 W1
    exact ⟨this.1.up (by omega), this.2⟩
  have h4 := close_wf (i := i) (by omega) h3.1
  exact ⟨h4.1, by omega⟩
theorem getD_set (gs : List Int) (j : Nat) (v : Int) (k : Nat) : (gs.set j v).getD k 0 = if k = j ∧ j < gs.length then v else gs.getD k 0 := by
 simp only [l_s, List.getElem?_set]
 by_cases hk : j = k
 ·subst hk
  by_cases hj : j < gs.length
  ·simp [hj]
  ·simp [hj]
 ·simp [hk]
  intro h; exact absurd h.symm hk
theorem okUnits_set {us gs : List Int} {j : Nat} {v : Int} (h : okUnits us gs) (hv : btw v (-1) 4) : okUnits us (gs.set j v) := by
 obtain ⟨h1, h2, h3⟩ := h
 refine ⟨h1, by rw [l_ak]; exact h2, fun k hk => ?_⟩
 obtain ⟨a, b, c⟩ := h3 k hk
 refine ⟨a, b, ?_⟩
 rw [getD_set]
 split
 ·exact hv
 ·exact c
theorem lose_wf {i : Nat} (hi : i < w.s.R.length) (W : w.wf U m) : ∀ j, (loseTo U w i j).wf U m ∧ (loseTo U w i j).s.R.length = w.s.R.length ∧ ((loseTo U w i j).R i).us = (w.R i).us
 | 0 => ⟨W, rfl, rfl⟩
 | j + 1 => by
  obtain ⟨W1, l1, u1⟩ := lose_wf hi W j
  have hi1 : i < (loseTo U w i j).s.R.length := by omega
  have h1 := W1.rr _ (R_mem hi1)
  refine ⟨(W1.mv _ _).put ⟨okUnits_set h1.1 ⟨by decide, by decide⟩, h1.2⟩, ?_, ?_⟩
  ·show (Wk.put _ _ _).s.R.length = _
   rw [put_len]; exact l1
  ·show ((Wk.put _ _ _).R i).us = _
   rw [R_put (by exact hi1)]; exact u1
theorem loseP_wf {ss : List Sup} {i : Nat} (hi : i < w.s.R.length) (h : loseP ss U w i = .ok w') (W : w.wf U m) : w'.wf U (m + 2) ∧ w'.s.R.length = w.s.R.length := by
 obtain ⟨W1, l1, _⟩ := lose_wf hi W (w.R i).us.length
 have := settle_wf (by omega) h W1
 exact ⟨this.1, by omega⟩
theorem due_wf {ss : List Sup} {num : Int} (h : dueP ss U w num = .ok w') (W : w.wf U m) : w'.wf U (m + 2) ∧ w'.s.R.length = w.s.R.length := by
 unfold dueP at h
 split at h
 ·cases h
 ·rename_i r hr
  obtain ⟨i, _, hi, hil, rfl, _⟩ := at_spec hr
  rw [hi] at h
  split at h
  ·exact loseP_wf hil h W
  ·split at h
   ·have := end_wf h W
    exact ⟨this.1.up (by omega), this.2⟩
   ·cases h; exact ⟨W.up (by omega), rfl⟩
theorem fold_wf {α : Type} {f : Wk → α → Except Int Wk} {k : Nat} (hf : ∀ {m : Nat} {w w' : Wk} {x : α}, f w x = .ok w' → w.wf U m → w'.wf U (m + k) ∧ w'.s.R.length = w.s.R.length) :
  ∀ (l : List α) {m : Nat} {w w' : Wk}, foldE f w l = .ok w' → w.wf U m → w'.wf U (m + k * l.length) ∧ w'.s.R.length = w.s.R.length
 | [], m, w, w', h, W => by cases h; exact ⟨W, rfl⟩
 | x :: l, m, w, w', h, W => by
  obtain ⟨w1, h1, h2⟩ := bind_ok h
  have a := hf h1 W
  have b := fold_wf hf l h2 a.1
  refine ⟨b.1.up ?_, by omega⟩
  rw [l_f, Nat.mul_succ]; omega
theorem paid_wf {i : Nat} {sum : Int} {yes : Bool} (hi : i < w.s.R.length) (h : paidP w i sum yes = .ok w') (W : w.wf U m) : w'.wf U m ∧ w'.s.R.length = w.s.R.length := by
 unfold paidP at h
 split at h
 ·have h1 := post_wf h (W.putR (i := i) (r := { w.R i with paid := w64 ((w.R i).paid + sum) }) hi rfl rfl)
  exact ⟨h1.1, by rw [h1.2, put_len]⟩
 ·exact credit_wf hi h W
theorem shipped_wf {ss : List Sup} {i : Nat} {yes : Bool} (hi : i < w.s.R.length) (h : shippedP ss w i yes = .ok w') (W : w.wf U m) : w'.wf U (m + 1) ∧ w'.s.R.length = w.s.R.length := by
 unfold shippedP at h
 simp only at h
 split at h
 ·split at h
  ·have W1 := (W.putR (i := i) (r := { w.R i with given := w64 ((w.R i).given + (priceOf ss (w.R i).want).getD 0) }) hi rfl rfl)
   have h1 := post_wf h (W1.mv _ _)
   exact ⟨h1.1.up (by omega), by rw [h1.2]; exact put_len⟩
  ·cases h
 ·have := pay_wf (by rw [release_len]; exact hi) h (W.release hi)
  exact ⟨this.1, by rw [this.2, release_len]⟩
end
end
section
section
variable {U : List Unt} {m : Nat} {w w' : Wk}
theorem left_tries {now : Int} {O : List Msg} {x : Msg} (h : x ∈ leftOf now O) : ∃ y ∈ O, x.tries = y.tries ∨ x.tries = y.tries + 1 := by
 obtain ⟨y, hy, hx⟩ := List.mem_flatMap.1 h
 refine ⟨y, hy, ?_⟩
 unfold left1 at hx
 split at hx
 ·simp at hx; exact .inl (by rw [hx])
 ·split at hx
  ·cases hx
  ·simp at hx; exact .inr (by rw [hx]; rfl)
theorem set_mem {T : List Tm} {n d : Int} {x : Tm} (h : x ∈ setT T n d) : x.num = n ∨ x ∈ T := by
 unfold setT insT at h
 rcases List.mem_append.1 h with h | h
 ·exact .inr (List.mem_filter.1 (List.mem_of_mem_take h)).1
 ·rcases List.mem_cons.1 h with rfl | h
  ·exact .inl rfl
  ·exact .inr (List.mem_filter.1 (List.mem_of_mem_drop h)).1
theorem Wk.wf.setT (W : w.wf U m) {n d : Int} (hn : 1 ≤ n ∧ n ≤ w.s.R.length) : Wk.wf U m { w with s := { w.s with T := setT w.s.T n d } } :=
 ⟨W.kl, W.rl, W.rr, good_set W.tg n d, fun x hx => by
  rcases set_mem hx with h | h
  ·rw [h]; exact hn
  ·exact W.tn x h, W.ol, W.ot, W.key, W.sl, W.now⟩
theorem Wk.wf.stopT (W : w.wf U m) (n : Int) : Wk.wf U m { w with s := { w.s with T := MX.without w.s.T n } } :=
 ⟨W.kl, W.rl, W.rr, good_without W.tg n, fun x hx => W.tn x (without_num hx).1, W.ol, W.ot, W.key, W.sl, W.now⟩
theorem pick_wf {num : Int} (h : pickP w num = .ok w') (W : w.wf U m) : w'.wf U m ∧ w'.s.R.length = w.s.R.length := by
 obtain ⟨w1, h1, h⟩ := bind_ok h
 obtain ⟨W1, l1, i, hn, hi, hil, _⟩ := step_wf h1 W
 cases h
 obtain ⟨W2, r2⟩ := moves_wf (w1.R (num - 1).toNat).us 1 W1
 exact ⟨W2.setT ⟨by omega, by rw [r2]; omega⟩, by show (movesP _ _ _).s.R.length = _; rw [r2]; exact l1⟩
theorem receive_wf {num : Int} (h : receiveP w num = .ok w') (W : w.wf U m) : w'.wf U m ∧ w'.s.R.length = w.s.R.length := by
 obtain ⟨w1, h1, h⟩ := bind_ok h
 obtain ⟨W1, l1, i, hn, hi, hil, _⟩ := step_wf h1 W
 cases h
 obtain ⟨W2, r2⟩ := moves_wf (w1.R (num - 1).toNat).us 2 W1
 exact ⟨W2.stopT num, by show (movesP _ _ _).s.R.length = _; rw [r2]; exact l1⟩
theorem Wk.wf.late (W : w.wf U m) {now : Int} (hn : 0 ≤ now ∧ now ≤ 100000) : Wk.wf U m { w with s := { w.s with now := now, T := lateT w.s.T now } } :=
 ⟨W.kl, W.rl, W.rr, good_late W.tg now, fun x hx => W.tn x ((List.dropWhile_sublist _).subset hx), W.ol, W.ot, W.key, W.sl, hn⟩
theorem Wk.wf.left (W : w.wf U m) (now : Int) : Wk.wf U (m + 1) { w with s := { w.s with O := leftOf now w.s.O } } :=
 ⟨W.kl, W.rl, W.rr, W.tg, W.tn, by
  have h1 := flatMap_le (left1 now) (left1_le now) w.s.O
  have h2 := W.ol
  show (leftOf now w.s.O).length ≤ _
  unfold leftOf
  omega, fun x hx => by
  obtain ⟨y, hy, h⟩ := left_tries hx
  have := W.ot y hy
  omega, by have := W.key; show 1 ≤ w.s.key ∧ w.s.key ≤ _; omega, by have := W.sl; show w.sd.length ≤ _; omega, W.now⟩
theorem due_len (T : List Tm) (d : Int) : (dueT T d).length ≤ T.length := (List.takeWhile_sublist _).length_le
theorem tick_wf {ss : List Sup} {days : Int} {x : Wk × List Msg} (h : tickP ss U w days = .ok x) (W : w.wf U m) : x.1.wf U (m + 201) ∧ x.1.s.R.length = w.s.R.length ∧ x.2.length ≤ 70000 + m + 200 := by
 unfold tickP at h
 split at h
 ·cases h
 ·split at h
  ·cases h
  ·rename_i h1 h2
   have hnow := W.now
   obtain ⟨w1, h3, h⟩ := bind_ok h
   obtain ⟨w2, h4, rfl⟩ := map_ok h
   have a := fold_wf (k := 2) (fun h W => due_wf h W) _ h3 (W.late (now := w.s.now + days) ⟨by omega, by omega⟩)
   rw [l_z] at a
   have hd := due_len w.s.T (w.s.now + days)
   have htl := W.tl
   have W1 : w1.wf U (m + 200) := a.1.up (by omega)
   have b := fold_wf (k := 0) (f := fun w (x : Msg) => endP w x.rma 8) (fun h W => end_wf h W) _ h4 (W1.left (w.s.now + days))
   have e : w1.s.R.length = w.s.R.length := a.2
   have h5 := flatMap_le (said1 (w.s.now + days)) (said1_le _) w1.s.O
   have h6 := W1.ol
   exact ⟨b.1.up (by omega), by rw [b.2]; exact e, by show (saidOf _ _).length ≤ _; unfold saidOf; omega⟩
theorem reply_wf {ss : List Sup} {key : Int} {yes : Bool} (h : replyP ss w key yes = .ok w') (W : w.wf U m) : w'.wf U (m + 1) ∧ w'.s.R.length = w.s.R.length := by
 unfold replyP at h
 split at h
 ·cases h
 ·rename_i j hj
  simp only at h
  split at h
  ·cases h
  ·rename_i r hr
   obtain ⟨i, _, hi, hil, _, _⟩ := at_spec (w := { w with s := { w.s with O := w.s.O.take j ++ w.s.O.drop (j + 1) } }) hr
   rw [hi] at h
   have hsub : (w.s.O.take j ++ w.s.O.drop (j + 1)).Sublist w.s.O := by
    conv => rhs; rw [← List.take_append_drop j w.s.O]
    exact List.Sublist.append_left (by rw [← List.drop_drop]; exact List.drop_sublist _ _) _
   have W1 : Wk.wf U m { w with s := { w.s with O := w.s.O.take j ++ w.s.O.drop (j + 1) } } :=
    ⟨W.kl, W.rl, W.rr, W.tg, W.tn, Nat.le_trans hsub.length_le W.ol, fun x hx => W.ot x (hsub.subset hx), W.key, W.sl, W.now⟩
   split at h
   ·have := end_wf h W1
    exact ⟨this.1.up (by omega), this.2⟩
   ·obtain ⟨w2, h2, rfl⟩ := map_ok h
    have h3 : w2.wf U (m + 1) ∧ w2.s.R.length = w.s.R.length := by
     split at h2
     ·have := step_wf h2 W1
      exact ⟨this.1.up (by omega), this.2.1⟩
     ·split at h2
      ·have := paid_wf hil h2 W1
       exact ⟨this.1.up (by omega), this.2⟩
      ·split at h2
       ·have := shipped_wf hil h2 W1
        exact ⟨this.1, this.2⟩
       ·split at h2
        ·cases h2; exact ⟨(W1.mv _ _).up (by omega), rfl⟩
        ·cases h2
    have := close_wf (i := i) (by rw [h3.2]; exact hil) h3.1
    exact ⟨this.1, by omega⟩
theorem gradeE_ok {r : Ret} {unit grade : Int} {j : Nat} (h : gradeE r unit grade = .ok j) : r.right ∧ btw grade 0 4 ∧ j < r.us.length ∧ r.us.getD j 0 = unit ∧ r.gs.getD j 0 = -1 := by
 unfold gradeE at h
 split at h
 ·cases h
 ·rename_i hg
  have hgr0 : r.right ∧ btw grade 0 4 := of_dcd_true (by cases hd : dcd (r.right ∧ btw grade 0 4) with | false => exact absurd hd hg | true => rfl)
  split at h
  ·cases h
  ·rename_i k hk
   split at h
   ·cases h
   ·rename_i hn
    cases h
    rw [List.findIdx?_eq_some_iff_getElem] at hk
    obtain ⟨hl, h1, _⟩ := hk
    refine ⟨hgr0.1, hgr0.2, hl, ?_, ?_⟩
    ·rw [getD_at hl]; simpa using h1
    ·exact Classical.byContradiction fun h => hn h
theorem gradeK_wf {ps : List Pol} {ss : List Sup} {c : Cmd} {i j : Nat} (hil : i < w.s.R.length) (hgr : btw c.grade 0 4) (h : gradeK ps ss U w c i j = .ok w') (W : w.wf U m) : w'.wf U (m + 3) ∧ w'.s.R.length = w.s.R.length := by
 have hx := W.rr _ (R_mem hil)
 have W1 : (w.put i { w.R i with gs := (w.R i).gs.set j c.grade, worth := w64 ((w.R i).worth + wrt (polOf ps (untAt U c.unit).cat) (untAt U c.unit).share (w.R i).rea c.grade) }).wf U m :=
  W.put ⟨okUnits_set hx.1 ⟨by have := hgr.1; omega, hgr.2⟩, hx.2⟩
 unfold gradeK at h
 simp only at h
 generalize hw2 : (if (polOf ps (untAt U c.unit).cat).gto c.grade ≠ 0 then _ else _ : Wk) = w2 at h
 have h2 : w2.wf U (m + 1) ∧ w2.s.R.length = w.s.R.length := by
  rw [← hw2]
  split
  ·exact ⟨(W1.mv _ _).up (by omega), put_len⟩
  ·exact ⟨(W1.mv _ _).say _ _ _, put_len⟩
 split at h
 ·cases h; exact ⟨h2.1.up (by omega), h2.2⟩
 ·have := settle_wf (by rw [h2.2]; exact hil) h h2.1
  exact ⟨this.1, by omega⟩
theorem grade_wf {ps : List Pol} {ss : List Sup} {c : Cmd} (h : gradeP ps ss U w c = .ok w') (W : w.wf U m) : w'.wf U (m + 3) ∧ w'.s.R.length = w.s.R.length := by
 unfold gradeP at h
 split at h
 ·cases h
 ·rename_i r hr
  obtain ⟨i, _, hi, hil, rfl, _⟩ := at_spec hr
  rw [hi] at h
  split at h
  ·cases h
  ·split at h
   ·cases h
   ·rename_i j hj
    split at h
    ·cases h
    ·exact gradeK_wf hil (gradeE_ok hj).2.1 h W
theorem wanted_wf {ss : List Sup} {sku : Int} {x : Int × Wk} (h : wantedP ss w sku = .ok x) (W : w.wf U m) : x.2.wf U m ∧ x.2.s.R = w.s.R ∧ x.2.s.now = w.s.now := by
 unfold wantedP at h
 split at h
 ·cases h; exact ⟨W, rfl, rfl⟩
 ·split at h
  ·cases h
  ·split at h
   ·cases h
   ·cases h
    exact ⟨⟨by rw [← W.kl]; exact l_ak, W.rl, W.rr, W.tg, W.tn, W.ol, W.ot, W.key, W.sl, W.now⟩, rfl, rfl⟩
theorem request_wf {ps : List Pol} {os : List Odr} {ss : List Sup} {c : Cmd} {x : Int × Wk} (hU : U.length ≤ 200) (hc : 1 ≤ c.us.length ∧ c.us.length ≤ 200) (h : requestP ps os ss U w c = .ok x) (W : w.wf U m) : x.2.wf U (m + 1) := by
 unfold requestP at h
 split at h
 ·cases h
 ·split at h
  ·cases h
  ·split at h
   ·cases h
   ·rename_i h1 _ h2
    have hask : ∀ i, i < c.us.length → askUnit U c i := by
     unfold askedP at h2
     split at h2
     ·simp at h2
     ·rename_i hd
      exact of_dcd_true (by cases hd' : dcd (∀ i, i < c.us.length → askUnit U c i) with | false => exact absurd hd' hd | true => rfl)
    obtain ⟨y, h3, rfl⟩ := map_ok h
    obtain ⟨W1, r1, n1⟩ := wanted_wf h3 W
    apply Wk.wf.say
    refine ⟨W1.kl, ?_, ?_, good_set W1.tg _ _, ?_, W1.ol, W1.ot, W1.key, W1.sl, W1.now⟩
    ·show (w.s.R ++ _).length ≤ 100
     rw [l_m]
     simp
     omega
    ·intro r hr
     rcases List.mem_append.1 hr with hr | hr
     ·exact W.rr r hr
     ·rw [l_aa] at hr
      rw [hr]
      refine ⟨⟨⟨by simp only; omega, by simp only; omega⟩, by simp, fun k hk => ?_⟩, fun v hv => ?_⟩
      ·obtain ⟨a, b, c', d⟩ := hask k hk
       refine ⟨⟨b, by show c.us.getD k 0 ≤ 199; omega⟩, a, ?_⟩
       simp only [l_s, l_ag, l_r (show k < c.us.length from hk)]
       exact ⟨by show (-1 : Int) ≤ -1; decide, by show (-1 : Int) ≤ 4; decide⟩
      ·obtain ⟨k, hk, rfl⟩ := l_af hv
       obtain ⟨a, b, c', d⟩ := hask k hk
       rw [getD_at hk] at c'
       exact c'
    ·intro z hz
     have hl : ((w.s.R ++ [(⟨(w.s.R.length : Int) + 1, c.ord, c.rea, c.want, y.1, c.cred || c.us.any fun u => (polOf ps (untAt U u).cat).cre, 1, w.s.now, c.us, c.us.map fun _ => -1, 0, 0, 0, 0⟩ : Ret)]).length : Int) = w.s.R.length + 1 := by
      rw [l_m]; simp
     show 1 ≤ z.num ∧ z.num ≤ ((w.s.R ++ _).length : Int)
     rw [hl]
     rcases set_mem hz with h | h
     ·rw [h]; omega
     ·have := W1.tn z h
      rw [r1] at this
      omega
theorem do_wf {D : Cfg} {c : Cmd} {x : Int × List Msg × Wk} (hU : U.length ≤ 200) (hc : c.kind = 1 → 1 ≤ c.us.length ∧ c.us.length ≤ 200) (h : doP D U w c = .ok x) (W : w.wf U m) : x.2.2.wf U (m + 201) := by
 unfold doP at h
 split at h
 ·obtain ⟨y, h1, rfl⟩ := map_ok h
  exact (request_wf hU (hc (by assumption)) h1 W).up (by omega)
 ·split at h
  ·obtain ⟨y, h1, rfl⟩ := map_ok h
   exact (end_wf h1 W).1.up (by omega)
  ·split at h
   ·obtain ⟨y, h1, rfl⟩ := map_ok h
    exact (end_wf h1 W).1.up (by omega)
   ·split at h
    ·obtain ⟨y, h1, rfl⟩ := map_ok h
     exact (pick_wf h1 W).1.up (by omega)
    ·split at h
     ·obtain ⟨y, h1, rfl⟩ := map_ok h
      exact (receive_wf h1 W).1.up (by omega)
     ·split at h
      ·obtain ⟨y, h1, rfl⟩ := map_ok h
       exact (grade_wf h1 W).1.up (by omega)
      ·split at h
       ·obtain ⟨y, h1, rfl⟩ := map_ok h
        exact (tick_wf h1 W).1
       ·obtain ⟨y, h1, rfl⟩ := map_ok h
        exact (reply_wf h1 W).1.up (by omega)
def Sag.wf (U : List Unt) (m : Nat) (s : Sag) : Prop := Wk.wf U m ⟨s, []⟩
theorem take_wf {D : Cfg} {c : Cmd} {s : Sag} (hU : U.length ≤ 200) (W : s.wf U m) : (takeP D U s c).2.2.2.wf U (m + 201) := by
 unfold takeP
 split
 ·exact Wk.wf.up W (by omega)
 ·rename_i hd
  have hf : c.formed := of_dcd_true (by cases hd' : dcd c.formed with | false => exact absurd hd' hd | true => rfl)
  split
  ·exact Wk.wf.up W (by omega)
  ·rename_i x hx
   have := do_wf hU (fun hk => by
    have h := hf.1
    unfold Cmd.fits at h
    rw [if_pos hk] at h
    omega) hx W
   exact ⟨this.kl, this.rl, this.rr, this.tg, this.tn, this.ol, this.ot, this.key, Nat.zero_le _, this.now⟩
end
end
def tol (r : Ret) : Int := r.paid + r.credd + r.given
def prc (ss : List Sup) (r : Ret) : Int := (priceOf ss r.want).getD 0
def due1 (pr n : Int) (m : Msg) : Int := if m.rma = n then (if m.kind = 2 then m.value else if m.kind = 3 then pr else 0) else 0
def dueM (pr n : Int) (O : List Msg) : Int := (O.map (due1 pr n)).sum
def clash (a b : Msg) : Prop := a.kind = b.kind ∧ ((a.kind = 1 ∨ a.kind = 3) ∧ a.rma = b.rma ∨ a.kind = 4 ∧ a.value = b.value)
structure RetI (D : Cfg) (U : List Unt) (i : Nat) (r : Ret) : Prop where
 num : r.num = i + 1
 ord : 0 ≤ r.ord ∧ r.ord < D.os.length
 rea : isR r.rea
 want : 0 ≤ r.want ∧ r.want ≤ 1000
 day : 0 ≤ r.day ∧ r.day ≤ 100000
 st : 1 ≤ r.state ∧ r.state ≤ 9
 uo : ∀ u ∈ r.us, (untAt U u).ord = r.ord
 g0 : r.state ≠ 4 → r.state ≠ 5 → r.state ≠ 6 → ∀ g ∈ r.gs, g = -1
 g4 : r.state = 4 → ∀ g ∈ r.gs, g ≤ 3
 g5 : r.state = 5 ∨ r.state = 6 → ∀ g ∈ r.gs, 0 ≤ g
 worth : r.worth = worthOf D.ps U r
 pos : 0 ≤ r.paid ∧ 0 ≤ r.credd ∧ 0 ≤ r.given
 nil : r.state ≠ 5 → r.state ≠ 6 → tol r = 0
structure MsgI (w : Wk) (m : Msg) : Prop where
 rma : 1 ≤ m.rma ∧ m.rma ≤ w.s.R.length
 kind : 1 ≤ m.kind ∧ m.kind ≤ 4
 k1 : m.kind = 1 → (w.R (m.rma - 1).toNat).state = 1
 k2 : m.kind = 2 → (w.R (m.rma - 1).toNat).state = 5 ∧ 0 < m.value
 k3 : m.kind = 3 → (w.R (m.rma - 1).toNat).state = 5 ∧ m.value = (w.R (m.rma - 1).toNat).res ∧ 0 ≤ m.value ∧ placeK w.s.K m.value = 7
 k4 : m.kind = 4 → ((w.R (m.rma - 1).toNat).state = 4 ∨ (w.R (m.rma - 1).toNat).state = 5) ∧ placeK w.s.K m.value = 8 ∧ ∀ i < w.s.R.length, (w.R i).res ≠ m.value
def ResI (D : Cfg) (w : Wk) (e i : Nat) (r : Ret) : Prop := -1 ≤ r.res ∧ (0 ≤ r.res → r.state ≤ 6 ∧ (priceOf D.ss r.want).isSome = true ∧
 ((placeK w.s.K r.res = 7 ∧ r.state ≤ 5 ∧ (r.state = 5 → i = e ∨ ∃ m ∈ w.s.O, m.kind = 3 ∧ m.rma = r.num)) ∨
  (placeK w.s.K r.res = 8 ∧ 5 ≤ r.state ∧ ∀ m ∈ w.s.O, m.kind = 3 → m.rma ≠ r.num)))
def there (st g p : Int) : Prop := (st = 1 ∨ st = 2 → p = 0) ∧ (st = 3 → p = 1) ∧ (st = 4 → (g < 0 → p = 2) ∧ (0 ≤ g → p ≠ 1 ∧ p ≠ 2))
def flagI (U : List Unt) (n : Nat) (u : KU) : Prop := (0 ≤ u.place ∧ u.place ≤ 8) ∧ (u.place = 2 → u.recv = true) ∧ (u.grad = true → u.recv = true) ∧ (0 ≤ (untAt U n).ord → 3 ≤ u.place ∧ u.place ≤ 5 ∨ u.place = 7 → u.grad = true)
def fin (r : Ret) : Prop := r.state = 5 ∨ r.state = 6
instance (r : Ret) : Decidable (fin r) := by unfold fin; exact inferInstance
def sumR (f : Ret → Int) (R : List Ret) : Int := (R.map f).sum
def owesR (r : Ret) : Int := if fin r then r.worth else 0
def restR (r : Ret) : Int := if fin r then r.worth - tol r else 0
structure LedI (w : Wk) : Prop where
 a : w.s.led.a = - sumR owesR w.s.R
 b : w.s.led.b = sumR restR w.s.R
 c : w.s.led.c = sumR Ret.paid w.s.R
 d : w.s.led.d = sumR Ret.credd w.s.R
 e : w.s.led.e = sumR Ret.given w.s.R
structure Inv (D : Cfg) (U : List Unt) (w : Wk) (e : Nat) (q : Int) : Prop where
 ret : ∀ i < w.s.R.length, RetI D U i (w.R i)
 msg : ∀ m ∈ w.s.O, MsgI w m
 cls : w.s.O.Pairwise fun a b => ¬ clash a b
 res : ∀ i < w.s.R.length, ResI D w e i (w.R i)
 dst : ∀ i < w.s.R.length, ∀ j < w.s.R.length, i ≠ j → (w.R i).res = (w.R j).res → (w.R i).res = -1
 own : ∀ n < w.s.K.length, placeK w.s.K n = 7 → ∃ i < w.s.R.length, (w.R i).res = n
 flg : ∀ n < w.s.K.length, flagI U n (w.s.K.getD n KU0)
 thr : ∀ i < w.s.R.length, ∀ k < (w.R i).us.length, there (w.R i).state ((w.R i).gs.getD k 0) (placeK w.s.K ((w.R i).us.getD k 0))
 dsj : ∀ i < w.s.R.length, ∀ j < w.s.R.length, i ≠ j → (w.R i).state ≤ 5 → (w.R j).state ≤ 5 → ∀ u ∈ (w.R i).us, u ∉ (w.R j).us
 mon : ∀ i < w.s.R.length, fin (w.R i) → (w.R i).worth = tol (w.R i) + dueM (prc D.ss (w.R i)) (i + 1) w.s.O + if i = e then q else 0
 cl : ∀ i < w.s.R.length, (w.R i).state = 6 → waitsOf (i + 1) w.s.O = 0 ∧ i ≠ e
 op : ∀ i < w.s.R.length, (w.R i).state = 5 → i = e ∨ 0 < waitsOf (i + 1) w.s.O
 tim : ∀ x ∈ w.s.T, (1 ≤ x.num ∧ x.num ≤ w.s.R.length) ∧ 1 ≤ (w.R (x.num - 1).toNat).state ∧ (w.R (x.num - 1).toNat).state ≤ 3
 led : LedI w
section
section
variable {D : Cfg} {U : List Unt} {w : Wk} {e i : Nat} {q s : Int} {r : Ret} {K : List KU} {O : List Msg}
theorem R_f (hi : i < w.s.R.length) : (w.put i r).R = fun j => if j = i then r else w.R j := by
 funext j
 unfold Wk.R Wk.put
 simp only [l_s, List.getElem?_set]
 split
 ·rename_i h; subst h; simp [hi]
 ·rename_i h; rw [if_neg (fun e => h e.symm)]
theorem place_at {n : Nat} (hn : n < K.length) : placeK K n = (K.getD n KU0).place := by
 simp [placeK, l_s, hn]
theorem place_mv {n to m : Int} (hm : 0 ≤ m) : placeK (moveK K n to) m = if moveE K n to = 0 ∧ m = n then to else placeK K m := by
 unfold moveK
 by_cases h : moveE K n to = 0
 ·rw [if_pos h]
  have hn : 0 ≤ n ∧ n < K.length := by
   unfold moveE at h
   split at h
   ·assumption
   ·simp at h
  unfold placeK
  rw [if_pos hm, if_pos hm]
  by_cases hmn : m = n
  ·subst hmn
   have : m.toNat < K.length := by omega
   simp [h, List.getElem?_set, this, movU]
  ·rw [if_neg (by omega)]
   rw [List.getElem?_set_ne (by omega)]
 ·rw [if_neg h, if_neg (by omega)]
theorem sumR_set (f : Ret → Int) : ∀ {R : List Ret} {i : Nat} (hi : i < R.length) (r : Ret), sumR f (R.set i r) = sumR f R - f (R.getD i Ret.zero) + f r
 | [], i, hi, _ => absurd hi (by simp)
 | x :: R, 0, _, r => by simp [sumR]; omega
 | x :: R, i + 1, hi, r => by
  have := sumR_set f (R := R) (i := i) (by simpa using hi) r
  simp only [sumR, l_i, List.map_cons, List.sum_cons, List.getD_cons_succ] at this ⊢
  omega
theorem due_snoc (pr n : Int) (m : Msg) : dueM pr n (O ++ [m]) = dueM pr n O + due1 pr n m := by simp [dueM]
theorem waits_snoc (n : Int) (m : Msg) : waitsOf n (O ++ [m]) = waitsOf n O + if m.rma = n ∧ m.kind ≠ 1 then 1 else 0 := by
 unfold waitsOf
 rw [List.filter_append, l_m]
 by_cases h : m.rma = n ∧ m.kind ≠ 1 <;> simp [h]
theorem upd_R {W : Wk} (h : W.s.R = w.s.R.set i r) (hi : i < w.s.R.length) : (∀ j, W.R j = if j = i then r else w.R j) ∧ W.s.R.length = w.s.R.length ∧ ∀ f : Ret → Int, sumR f W.s.R = sumR f w.s.R - f (w.R i) + f r := by
 refine ⟨fun j => ?_, by rw [h]; simp, fun f => by rw [h]; exact sumR_set f hi r⟩
 have : W.R j = (w.put i r).R j := by unfold Wk.R; rw [h]; rfl
 rw [this, R_f hi]
theorem flag_mv (h : ∀ n < K.length, flagI U n (K.getD n KU0)) (n0 to : Int) : ∀ n < (moveK K n0 to).length, flagI U n ((moveK K n0 to).getD n KU0) := by
 intro n hn
 rw [moveK_len] at hn
 have h1 := h n hn
 unfold moveK
 split
 ·rename_i hm
  have hr : 0 ≤ n0 ∧ n0 < K.length := by
   unfold moveE at hm
   split at hm
   ·assumption
   ·simp at hm
  have hmay : mayK (placeK K n0) to := by
   unfold moveE at hm
   rw [if_pos hr] at hm
   split at hm
   ·assumption
   ·simp at hm
  rw [l_s, List.getElem?_set]
  split
  ·rename_i he
   have h2 := h n0.toNat (by omega)
   have hp := place_at (K := K) (n := n0.toNat) (by omega)
   rw [show ((n0.toNat : Nat) : Int) = n0 by omega] at hp
   rw [hp] at hmay
   subst he
   rw [if_pos (by omega)]
   generalize K.getD n0.toNat KU0 = u at *
   obtain ⟨pl, sk, rc, gd⟩ := u
   unfold flagI mayK at *
   simp only [movU, Option.getD_some, Bool.or_eq_true, decide_eq_true_eq] at *
   clear h h1 hm
   rcases hmay with hm | hm | hm | hm | hm | hm <;> grind
  ·rw [← l_s]
   exact h1
 ·exact h1
theorem moveE_0 {n to : Int} : moveE K n to = 0 ↔ mayK (placeK K n) to := by
 have : mayK (placeK K n) to → 0 ≤ n ∧ n < K.length := fun h => by
  unfold mayK placeK at h
  split at h
  ·by_cases hn : n.toNat < K.length
   ·omega
   ·rw [List.getElem?_eq_none (by omega)] at h
    simp at h
  ·omega
 unfold moveE
 constructor
 ·intro h
  split at h
  ·split at h
   ·assumption
   ·simp at h
  ·simp at h
 ·intro h
  rw [if_pos (this h), if_pos h]
theorem place_mv' {n to m : Int} (hm : 0 ≤ m) : placeK (moveK K n to) m = if mayK (placeK K m) to ∧ m = n then to else placeK K m := by
 rw [place_mv hm]
 by_cases h : m = n
 ·subst h
  simp only [moveE_0, and_true]
 ·rw [if_neg (fun x => h x.2), if_neg (fun x => h x.2)]
def mvsK (K : List KU) (us : List Int) (to : Int) : List KU := us.foldl (fun K u => moveK K u to) K
theorem place_moves {to m : Int} (hm : 0 ≤ m) (ht : ¬ mayK to to) : ∀ {us : List Int} {K : List KU}, placeK (mvsK K us to) m = if mayK (placeK K m) to ∧ m ∈ us then to else placeK K m
 | [], K => by simp [mvsK]
 | u :: us, K => by
  show placeK (mvsK (moveK K u to) us to) m = _
  rw [place_moves hm ht, place_mv' hm]
  grind
theorem flag_moves (to : Int) : ∀ {us : List Int} {K : List KU}, (∀ n < K.length, flagI U n (K.getD n KU0)) → (mvsK K us to).length = K.length ∧ ∀ n < (mvsK K us to).length, flagI U n ((mvsK K us to).getD n KU0)
 | [], K, h => ⟨rfl, h⟩
 | u :: us, K, h => by
  have := flag_moves to (us := us) (flag_mv h u to)
  rw [moveK_len] at this
  exact this
theorem moves_eq (to : Int) : ∀ (us : List Int) (w : Wk), movesP w us to = { w with s := { w.s with K := mvsK w.s.K us to } }
 | [], w => rfl
 | u :: us, w => moves_eq to us (w.mv u to)
theorem place_nn {n : Int} (h : placeK K n ≠ -1) : 0 ≤ n := by
 unfold placeK at h
 split at h
 ·assumption
 ·exact absurd rfl h
theorem due_zero {pr n : Int} : ∀ {O : List Msg}, (∀ m ∈ O, m.rma = n → m.kind ≠ 2 ∧ m.kind ≠ 3) → dueM pr n O = 0
 | [], _ => rfl
 | m :: O, h => by
  have h1 := due_zero (pr := pr) (n := n) (O := O) (fun x hx => h x (by simp [hx]))
  have h2 := h m (by simp)
  simp only [dueM, List.map_cons, List.sum_cons, due1] at h1 ⊢
  rw [h1]
  split
  ·rw [if_neg (h2 (by assumption)).1, if_neg (h2 (by assumption)).2]; rfl
  ·rfl
theorem due_nn {pr n : Int} (hp : 0 ≤ pr) : ∀ {O : List Msg}, (∀ m ∈ O, m.kind = 2 → 0 ≤ m.value) → 0 ≤ dueM pr n O
 | [], _ => Int.le_refl _
 | m :: O, h => by
  have h1 := due_nn (n := n) hp (O := O) (fun x hx => h x (by simp [hx]))
  have h2 := h m (by simp)
  simp only [dueM, List.map_cons, List.sum_cons, due1] at h1 ⊢
  split
  ·split
   ·have := h2 (by assumption); omega
   ·split <;> omega
  ·omega
theorem due_filter {pr n : Int} {p : Msg → Bool} : ∀ {O : List Msg}, (∀ m ∈ O, p m = false → m.kind = 1 ∨ m.rma ≠ n) → dueM pr n (O.filter p) = dueM pr n O ∧ waitsOf n (O.filter p) = waitsOf n O
 | [], _ => ⟨rfl, rfl⟩
 | m :: O, h => by
  obtain ⟨h1, h3⟩ := due_filter (pr := pr) (n := n) (p := p) (O := O) (fun x hx => h x (by simp [hx]))
  have h2 : p m = false → due1 pr n m = 0 ∧ ¬ (m.rma = n ∧ m.kind ≠ 1) := fun hp => by
   have := h m (by simp) hp
   unfold due1
   grind
  simp only [dueM, waitsOf, List.map_cons, List.sum_cons, List.filter_cons] at h1 h3 ⊢
  cases hp : p m with
  | false =>
   have := h2 hp
   simp only [hp, Bool.false_eq_true, if_false, decide_eq_true_eq, if_neg this.2]
   omega
  | true =>
   simp only [if_true, List.map_cons, List.sum_cons, List.filter_cons]
   grind
theorem inv_money {W : Wk} {p c g : Int} (I : Inv D U w i q) (hi : i < w.s.R.length) (h5 : (w.R i).state = 5) (hp : 0 ≤ p ∧ 0 ≤ c ∧ 0 ≤ g)
  (hR : W.s.R = w.s.R.set i { w.R i with paid := (w.R i).paid + p, credd := (w.R i).credd + c, given := (w.R i).given + g }) (hK : W.s.K = w.s.K) (hO : W.s.O = w.s.O) (hT : W.s.T = w.s.T) (hL : W.s.led = ⟨w.s.led.a, w.s.led.b - (p + c + g), w.s.led.c + p, w.s.led.d + c, w.s.led.e + g⟩) :
  Inv D U W i (q - (p + c + g)) := by
 obtain ⟨hR, hn, hs⟩ := upd_R hR hi
 constructor
 case ret =>
  intro j hj
  have := I.ret j (by omega)
  rw [hR]
  split
  ·subst j
   exact { this with pos := by have := this.pos; simp only; omega, nil := fun h => absurd h5 h }
  ·exact this
 case msg =>
  intro m hm
  obtain ⟨a1, a2, a3, a4, a5, a6⟩ := I.msg m (by grind)
  constructor <;> grind
 case cls => grind [I.cls]
 case res =>
  intro j hj
  have := I.res j (by omega)
  grind [ResI]
 case dst => grind [I.dst]
 case own => grind [I.own]
 case flg => grind [I.flg]
 case thr => grind [I.thr]
 case dsj => grind [I.dsj]
 case mon =>
  intro j hj
  have := I.mon j (by omega)
  grind [fin, tol, prc]
 case cl => grind [I.cl]
 case op =>
  intro j hj
  have := I.op j (by omega)
  grind
 case tim =>
  intro x hx
  have := I.tim x (by grind)
  grind
 case led =>
  obtain ⟨a1, a2, a3, a4, a5⟩ := I.led
  constructor <;> rw [hs, hL] <;> simp only [owesR, restR, fin, tol, h5, true_or, if_true] <;> omega
end
end
end Go.Proofs.YtcgbhcgfdcfmaaaGreat.MX
