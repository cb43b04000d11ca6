import Derived.Test.YtcgbhcgfdcfmaaaGreatK29
import Derived.Test.YtcgbhcgfdcfmaaaGreatK25
import Derived.Test.YtcgbhcgfdcfmaaaGreatK24
import Derived.Test.YtcgbhcgfdcfmaaaGreatK26
namespace Go.Proofs.YtcgbhcgfdcfmaaaGreat.MX
open Go Go.Proofs
set_option linter.unusedSimpArgs false
set_option linter.unusedVariables false
section
def leftF (now : Int) (m : Msg) : Msg := if m.due > now then m else m.bump now
def leftP (now : Int) (m : Msg) : Bool := decide (m.due > now) || !decide (m.kind = 1 ∧ m.tries ≥ 5)
def tickQ (ss : List Sup) (U : List Unt) (w : Wk) (days : Int) : Wk × List Msg :=
 let now := w.s.now + days
 let w1 := ((dueT w.s.T now).map Tm.num).foldl (dueQ ss U) { w with s := { w.s with now := now, T := lateT w.s.T now } }
 ((givenOf now w1.s.O).foldl (fun w m => endQ w (m.rma - 1).toNat 8) { w1 with s := { w1.s with O := leftOf now w1.s.O } }, saidOf now w1.s.O)
section
variable {D : Cfg} {U : List Unt} {w W : Wk} {e i j m : Nat} {q s : Int} {r : Ret} {K : List KU} {O : List Msg}
theorem left_eq (now : Int) : ∀ l : List Msg, leftOf now l = (l.filter (leftP now)).map (leftF now)
 | [] => rfl
 | x :: l => by
  have ih := left_eq now l
  simp only [leftOf, List.flatMap_cons, List.filter_cons] at ih ⊢
  rw [ih]
  unfold left1 leftP leftF
  split
  ·simp [*]
  ·split <;> simp [*]
theorem given_mem {now : Int} {l : List Msg} {x : Msg} (h : x ∈ givenOf now l) : x ∈ l ∧ x.kind = 1 := by
 obtain ⟨y, hy, hx⟩ := List.mem_flatMap.1 h
 unfold given1 at hx
 split at hx
 ·cases hx
 ·split at hx
  ·obtain rfl := List.mem_singleton.1 hx
   rename_i h1
   exact ⟨hy, h1.1⟩
  ·cases hx
theorem given_sub (now : Int) : ∀ l : List Msg, (givenOf now l).Sublist l
 | [] => List.Sublist.refl _
 | x :: l => by
  have ih := given_sub now l
  simp only [givenOf, List.flatMap_cons] at ih ⊢
  unfold given1
  split
  ·exact ih.cons _
  ·split
   ·exact ih.cons_cons _
   ·exact ih.cons _
theorem rest_T (ss : List Sup) (w : Wk) (i : Nat) : (restQ ss w i).s.T = w.s.T := by
 have hc : ∀ v : Wk, (closeP v i).s.T = v.s.T := fun v => by unfold closeP; split <;> rfl
 have hp : ∀ (v : Wk) s, (payQ v i s).s.T = v.s.T := fun v s => by unfold payQ; split; rfl; split <;> rfl
 have hr : (releaseP w i).s.T = w.s.T := by unfold releaseP; split <;> rfl
 unfold restQ
 rw [hc]
 split
 ·split
  ·rw [hp, hr]
  ·rw [hp]; rfl
 ·rw [hp]
theorem due_T (ss : List Sup) (w : Wk) (n : Int) : ∀ x ∈ (dueQ ss U w n).s.T, x ∈ w.s.T := by
 intro x hx
 unfold dueQ at hx
 simp only at hx
 split at hx
 ·unfold loseQ settleQ at hx
  rw [rest_T, moves_eq] at hx
  exact hx
 ·split at hx
  ·unfold endQ at hx
   have := (without_num hx).1
   unfold releaseP at this
   split at this <;> exact this
  ·exact hx
theorem dues_inv (hD : Stc D U) : ∀ {l : List Int} {w : Wk} {m : Nat}, Inv D U w 1000 0 → w.wf U m → l.Nodup → (∀ n ∈ l, (1 ≤ n ∧ n ≤ w.s.R.length) ∧ ∀ x ∈ w.s.T, x.num ≠ n) →
  foldE (dueP D.ss U) w l = .ok (l.foldl (dueQ D.ss U) w) ∧ Inv D U (l.foldl (dueQ D.ss U) w) 1000 0 ∧ (l.foldl (dueQ D.ss U) w).wf U (m + 2 * l.length)
 | [], w, m, I, Wf, _, _ => ⟨rfl, I, Wf⟩
 | n :: l, w, m, I, Wf, hn, h => by
  obtain ⟨h1, h2⟩ := h n (by simp)
  obtain ⟨a, b, c, d⟩ := due_inv hD I Wf h1 h2
  rw [List.nodup_cons] at hn
  obtain ⟨e, f, g⟩ := dues_inv hD (l := l) b c hn.2 (fun k hk => by
   have := h k (by simp [hk])
   exact ⟨by omega, fun x hx => this.2 x (due_T _ _ _ x hx)⟩)
  refine ⟨by rw [foldE, a]; exact e, f, ?_⟩
  rw [l_f, show m + 2 * (l.length + 1) = m + 2 + 2 * l.length by omega]
  exact g
theorem ends_inv : ∀ {l : List Msg} {w : Wk} {m : Nat}, Inv D U w 1000 0 → w.wf U m → l.Pairwise (fun a b => a.rma ≠ b.rma) → (∀ x ∈ l, (1 ≤ x.rma ∧ x.rma ≤ w.s.R.length) ∧ (w.R (x.rma - 1).toNat).state = 1) →
  foldE (fun w (x : Msg) => endP w x.rma 8) w l = .ok (l.foldl (fun w x => endQ w (x.rma - 1).toNat 8) w) ∧ Inv D U (l.foldl (fun w x => endQ w (x.rma - 1).toNat 8) w) 1000 0
 | [], w, m, I, Wf, _, _ => ⟨rfl, I⟩
 | n :: l, w, m, I, Wf, hn, h => by
  obtain ⟨h1, h2⟩ := h n (by simp)
  obtain ⟨a, b, c, d, e⟩ := end_inv (i := (n.rma - 1).toNat) (st := 8) I Wf (by omega) (.inl h2) (by decide)
  rw [show (((n.rma - 1).toNat : Nat) : Int) + 1 = n.rma by omega] at a
  rw [List.pairwise_cons] at hn
  obtain ⟨f, g⟩ := ends_inv (l := l) b c hn.2 (fun x hx => by
   have h3 := h x (by simp [hx])
   have h4 := hn.1 x hx
   refine ⟨by omega, ?_⟩
   rw [e, if_neg (by omega)]
   exact h3.2)
  exact ⟨by rw [foldE, a]; exact f, g⟩
theorem tick_inv (hD : Stc D U) {days : Int} (I : Inv D U w 1000 0) (Wf : w.wf U m) (hd : ¬ (days < 1 ∨ 1000 < days)) (hn : ¬ 100000 < w.s.now + days) :
  tickP D.ss U w days = .ok (tickQ D.ss U w days) ∧ Inv D U (tickQ D.ss U w days).1 1000 0 := by
 have hnow := Wf.now
 obtain ⟨now, hno⟩ : ∃ now, now = w.s.now + days := ⟨_, rfl⟩
 obtain ⟨w0, hw0⟩ : ∃ w0 : Wk, w0 = { w with s := { w.s with now := now, T := lateT w.s.T now } } := ⟨_, rfl⟩
 have hTT : w.s.T = dueT w.s.T now ++ lateT w.s.T now := (List.takeWhile_append_dropWhile).symm
 have hall := Wf.tg.2
 rw [hTT, List.pairwise_append] at hall
 have I0 : Inv D U w0 1000 0 := inv_days I (f := id) (p := fun _ => true) (by rw [hw0]) (by rw [hw0]) (by rw [hw0]) (fun x hx => by rw [hw0] at hx; exact (List.dropWhile_sublist _).subset hx) (fun _ => ⟨rfl, rfl, rfl⟩) (fun _ _ h => by simp at h) (by rw [hw0, List.map_id, List.filter_eq_self.2 (fun _ _ => rfl)])
 have W0 : w0.wf U m := by rw [hw0]; exact Wf.late (by omega)
 obtain ⟨a, b, c⟩ := dues_inv hD (l := (dueT w.s.T now).map Tm.num) I0 W0 (by
  rw [List.Nodup, List.pairwise_map]
  exact hall.1) (fun n hn => by
   obtain ⟨y, hy, rfl⟩ := List.mem_map.1 hn
   have h1 := Wf.tn y (by rw [hTT]; exact List.mem_append_left _ hy)
   refine ⟨by rw [hw0]; exact h1, fun x hx he => ?_⟩
   rw [hw0] at hx
   exact hall.2.2 y hy x hx he.symm)
 obtain ⟨w1, hw1⟩ : ∃ w1, w1 = ((dueT w.s.T now).map Tm.num).foldl (dueQ D.ss U) w0 := ⟨_, rfl⟩
 rw [← hw1] at a b c
 obtain ⟨w2, hw2⟩ : ∃ w2 : Wk, w2 = { w1 with s := { w1.s with O := leftOf now w1.s.O } } := ⟨_, rfl⟩
 have I2 : Inv D U w2 1000 0 := inv_days b (f := leftF now) (p := leftP now) (by rw [hw2]) (by rw [hw2]) (by rw [hw2]) (fun x hx => by rw [hw2] at hx; exact hx) (fun x => by unfold leftF; split <;> exact ⟨rfl, rfl, rfl⟩) (fun x _ h => by unfold leftP at h; simp at h; exact h.2.1) (by rw [hw2]; exact left_eq _ _)
 have W2 := c.left now
 rw [← hw2] at W2
 have hg : (givenOf now w1.s.O).Pairwise (fun a b => a.rma ≠ b.rma) := by
  have := b.cls.sublist (given_sub now w1.s.O)
  rw [List.pairwise_iff_forall_sublist] at this ⊢
  intro x y hxy he
  have hx := (given_mem (hxy.subset (by simp : x ∈ [x, y]))).2
  have hy := (given_mem (hxy.subset (by simp : y ∈ [x, y]))).2
  exact this hxy ⟨by omega, .inl ⟨.inl hx, he⟩⟩
 obtain ⟨f, g⟩ := ends_inv (l := givenOf now w1.s.O) I2 W2 hg (fun x hx => by
  obtain ⟨h1, h2⟩ := given_mem hx
  have h3 := b.msg x h1
  rw [hw2]
  exact ⟨h3.rma, h3.k1 h2⟩)
 unfold tickP tickQ
 rw [if_neg hd, if_neg hn]
 simp only [← hno, ← hw0, ← hw1, ← hw2]
 rw [a]
 simp only [Except.bind, ← hw2]
 rw [f]
 exact ⟨rfl, g⟩
theorem firstE_0 {α : Type} {f : α → Int} : ∀ {l : List α}, firstE f l = 0 → ∀ x ∈ l, f x = 0
 | [], _, x, h => absurd h (by simp)
 | y :: l, h, x, hx => by
  unfold firstE at h
  split at h
  ·rcases List.mem_cons.1 hx with rfl | hx
   ·assumption
   ·exact firstE_0 h x hx
  ·rename_i h1; exact absurd h h1
theorem pick_spec {sku : Int} {n : Nat} (h : pickI K sku = some n) : n < K.length ∧ (K.getD n KU0).place = 3 ∧ (K.getD n KU0).sku = sku := by
 unfold pickI at h
 rw [List.findIdx?_eq_some_iff_getElem] at h
 obtain ⟨h1, h2, _⟩ := h
 have := of_decide_eq_true h2
 rw [l_s, l_r h1]
 exact ⟨h1, this⟩
theorem req_inv (hD : Stc D U) {c : Cmd} {x : Int × Wk} (I : Inv D U w 1000 0) (Wf : w.wf U m) (hc : c.formed) (h1 : c.kind = 1) (h : requestP D.ps D.os D.ss U w c = .ok x) : Inv D U x.2 1000 0 := by
 have hf := hc.1
 unfold Cmd.fits at hf
 rw [if_pos h1] at hf
 have W2 := request_wf hD.ul (by have := hf.1; omega) h Wf
 have hw := hf.2.2.2.1
 unfold btw at hw
 unfold requestP at h
 split at h
 ·cases h
 split at h
 ·cases h
 split at h
 ·cases h
 rename_i hlen hord hask
 obtain ⟨y, hy, rfl⟩ := map_ok h
 unfold askedP at hask
 split at hask
 ·exact absurd hask (by simp)
 split at hask
 ·exact absurd hask (by simp)
 rename_i hu hrea
 have hunit : ∀ k, k < c.us.length → askUnit U c k := of_dcd_true (by cases hd : dcd (∀ i, i < c.us.length → askUnit U c i) with | false => exact absurd hd hu | true => rfl)
 have hware : ∀ u ∈ c.us, placeK w.s.K u = 0 ∧ holderS w.s u ≤ 0 := fun u hu => by
  have := firstE_0 (Classical.not_not.1 hask) u hu
  unfold askWare at this
  split at this
  ·simp at this
  ·omega
 have hnow := Wf.now
 have hy2 : y.2.s.R = w.s.R ∧ y.2.s.O = w.s.O ∧ y.2.s.T = w.s.T ∧ y.2.s.led = w.s.led ∧ y.2.s.now = w.s.now ∧ (y.1 = -1 ∧ y.2.s.K = w.s.K ∨ ∃ n : Nat, n < w.s.K.length ∧ y.1 = n ∧ placeK w.s.K n = 3 ∧ y.2.s.K = w.s.K.set n { w.s.K.getD n KU0 with place := 7 } ∧ (priceOf D.ss c.want).isSome = true) := by
  unfold wantedP at hy
  split at hy
  ·cases hy; exact ⟨rfl, rfl, rfl, rfl, rfl, .inl ⟨rfl, rfl⟩⟩
  ·split at hy
   ·cases hy
   ·rename_i p hp
    split at hy
    ·cases hy
    ·rename_i n hn
     cases hy
     obtain ⟨n1, n2, _⟩ := pick_spec hn
     exact ⟨rfl, rfl, rfl, rfl, rfl, .inr ⟨n, n1, rfl, by rw [place_at n1]; exact n2, rfl, by rw [hp]; rfl⟩⟩
 obtain ⟨y1, y2, y3, y4, y5, y6⟩ := hy2
 have hmem : ∀ u ∈ c.us, ∃ k, k < c.us.length ∧ c.us.getD k 0 = u := fun u hu => by
  obtain ⟨k, hk, rfl⟩ := l_af hu
  exact ⟨k, hk, getD_at hk⟩
 have hds : ∀ j < w.s.R.length, (w.R j).state ≤ 5 → ∀ u ∈ c.us, u ∉ (w.R j).us := fun j hj h5 u hu hin => by
  have h1 := (hware u hu).2
  unfold holderS at h1
  cases hfd : w.s.R.find? fun r => !decide (6 ≤ r.state ∧ r.state ≤ 9) && r.us.contains u with
  | none =>
   rw [List.find?_eq_none] at hfd
   refine hfd _ (R_mem hj) ?_
   rw [Bool.and_eq_true, List.contains_iff_mem]
   exact ⟨by simp; omega, hin⟩
  | some r =>
   rw [hfd] at h1
   have hr := List.mem_of_find?_eq_some hfd
   obtain ⟨k, hk, rfl⟩ := l_af hr
   have := (I.ret k hk).num
   have e : w.R k = w.s.R[k] := by unfold Wk.R; rw [l_s, l_r hk]; rfl
   rw [e] at this
   simp only [Option.map_some, Option.getD_some] at h1
   omega
 have hRI : RetI D U w.s.R.length ⟨(w.s.R.length : Int) + 1, c.ord, c.rea, c.want, y.1, c.cred || c.us.any fun u => (polOf D.ps (untAt U u).cat).cre, 1, w.s.now, c.us, c.us.map fun _ => -1, 0, 0, 0, 0⟩ := by
  refine ⟨rfl, by simp only; omega, ⟨by simp only; omega, by simp only; omega⟩, by simp only; omega, hnow, by simp, fun u hu => ?_, fun _ _ _ g hg => ?_, fun h => by simp at h, fun h => by simp at h, ?_, by simp, fun _ _ => rfl⟩
  ·obtain ⟨k, hk, rfl⟩ := hmem u hu
   exact (hunit k hk).2.2.2
  ·obtain ⟨_, _, rfl⟩ := List.mem_map.1 hg; rfl
  ·exact (unitW0 (by simp) fun g hg => by obtain ⟨_, _, rfl⟩ := List.mem_map.1 hg; rfl).symm
 refine inv_req (m := ⟨y.2.s.key, 1, (w.s.R.length : Int) + 1, 0, 1, y.2.s.now + 1⟩) I (by have := Wf.rl; omega) hRI rfl ⟨rfl, rfl⟩ (fun u hu => (hware u hu).1) hds y6 rfl ?_ ?_ y4
 ·show y.2.s.O ++ _ = _
  rw [y2]
 ·intro x hx
  have hx' : x ∈ setT y.2.s.T _ _ := hx
  rcases set_mem hx' with h | h
  ·exact .inr h
  ·rw [y3] at h; exact .inl h
theorem take_inv (hD : Stc D U) {sg : Sag} {c : Cmd} (I : Inv D U ⟨sg, []⟩ 1000 0) (Wf : sg.wf U m) : Inv D U ⟨(takeP D U sg c).2.2.2, []⟩ 1000 0 := by
 have hsd : ∀ {v : Wk}, Inv D U v 1000 0 → Inv D U ⟨v.s, []⟩ 1000 0 := fun {v} h => by
  obtain ⟨a, b, c, d, e, f, g, h, i, j, k, l, o, p⟩ := h
  exact ⟨a, fun m hm => ⟨(b m hm).1, (b m hm).2, (b m hm).3, (b m hm).4, (b m hm).5, (b m hm).6⟩, c, d, e, f, g, h, i, j, k, l, o, ⟨p.1, p.2, p.3, p.4, p.5⟩⟩
 have Wf' : Wk.wf U m ⟨sg, []⟩ := Wf
 unfold takeP
 split
 ·exact I
 rename_i hd
 have hf : c.formed := of_dcd_true (by cases hd' : dcd c.formed with | false => exact absurd hd' hd | true => rfl)
 split
 ·exact I
 rename_i x hx
 simp only
 refine hsd ?_
 have hend : ∀ {n st : Int} {v : Wk}, 7 ≤ st ∧ st ≤ 9 → endP ⟨sg, []⟩ n st = .ok v → Inv D U v 1000 0 := fun {n st v} hst h => by
  have h2 := h
  unfold endP at h2
  split at h2
  ·cases h2
  ·rename_i r hr
   obtain ⟨i, e1, e2, hi, e3, _⟩ := at_spec hr
   split at h2
   ·cases h2
   ·rename_i st2 hn
    have h12 : r.state = 1 ∨ r.state = 2 := by unfold nextV at hn; grind
    obtain ⟨a, b, _⟩ := end_inv (i := i) (st := st) I Wf' hi (by rw [e3]; exact h12) hst
    rw [e1, a] at h
    cases h
    exact b
 unfold doP at hx
 split at hx
 ·obtain ⟨z, hz, rfl⟩ := map_ok hx; exact req_inv hD I Wf' hf (by assumption) hz
 split at hx
 ·obtain ⟨z, hz, rfl⟩ := map_ok hx; exact hend (by decide) hz
 split at hx
 ·obtain ⟨z, hz, rfl⟩ := map_ok hx; exact hend (by decide) hz
 split at hx
 ·obtain ⟨z, hz, rfl⟩ := map_ok hx
  have h := hz
  unfold pickP stepP at h
  cases hat : (⟨sg, []⟩ : Wk).s.at_ c.rma with
  | none => rw [hat] at h; cases h
  | some r =>
   obtain ⟨i, e1, e2, hi, e3, _⟩ := at_spec hat
   rw [hat] at h
   cases hn : nextV r.state 2 with
   | none => simp only [hn] at h; cases h
   | some st =>
    obtain ⟨a, b⟩ := pick_inv I Wf' hi (by rw [e3]; unfold nextV at hn; grind)
    rw [e1, a] at hz
    cases hz
    exact b
 split at hx
 ·obtain ⟨z, hz, rfl⟩ := map_ok hx
  have h := hz
  unfold receiveP stepP at h
  cases hat : (⟨sg, []⟩ : Wk).s.at_ c.rma with
  | none => rw [hat] at h; cases h
  | some r =>
   obtain ⟨i, e1, e2, hi, e3, _⟩ := at_spec hat
   rw [hat] at h
   cases hn : nextV r.state 3 with
   | none => simp only [hn] at h; cases h
   | some st =>
    obtain ⟨a, b⟩ := receive_inv I Wf' hi (by rw [e3]; unfold nextV at hn; grind)
    rw [e1, a] at hz
    cases hz
    exact b
 split at hx
 ·obtain ⟨z, hz, rfl⟩ := map_ok hx
  unfold gradeP at hz
  split at hz
  ·cases hz
  ·rename_i r hr
   obtain ⟨i, e1, e2, hi, e3, _⟩ := at_spec hr
   split at hz
   ·cases hz
   ·rename_i h4
    split at hz
    ·cases hz
    ·rename_i k hk
     split at hz
     ·cases hz
     ·rename_i hg4
      subst e3
      rw [e2] at hz
      obtain ⟨a, b⟩ := grade_inv hD I Wf' hi (Classical.not_not.1 h4) hk hg4
      rw [a] at hz
      cases hz
      exact b
 split at hx
 ·obtain ⟨z, hz, rfl⟩ := map_ok hx
  have h := hz
  unfold tickP at h
  split at h
  ·cases h
  ·split at h
   ·cases h
   ·obtain ⟨a, b⟩ := tick_inv hD I Wf' (by assumption) (by assumption)
    rw [a] at hz
    cases hz
    exact b
 ·obtain ⟨z, hz, rfl⟩ := map_ok hx
  unfold replyP at hz
  split at hz
  ·cases hz
  ·rename_i k hk
   rw [List.findIdx?_eq_some_iff_getElem] at hk
   obtain ⟨hk, _, _⟩ := hk
   have hgd : (⟨sg, []⟩ : Wk).s.O.getD k Msg.zero = sg.O[k] := by rw [l_s, l_r hk]; rfl
   simp only at hz
   split at hz
   ·cases hz
   ·rw [hgd] at hz
    obtain ⟨a, b⟩ := heard_inv (w := ⟨sg, []⟩) hD I Wf' hk (x := sg.O[k]) rfl rfl c.yes rfl
    rw [a] at hz
    cases hz
    exact b
theorem new_inv {C : Cfg} (hD : Stc D (unitsAll C)) : Inv D (unitsAll C) ⟨sagNew C, []⟩ 1000 0 := by
 have hK : ∀ n < (sagNew C).K.length, (sagNew C).K.getD n KU0 = ⟨if (untAt (unitsAll C) n).ord < 0 then 3 else 0, (untAt (unitsAll C) n).sku, false, false⟩ := fun n hn => by
  have hl : (sagNew C).K.length = (unitsAll C).length := by show (stkOf _ _).length = _; simp [stkOf]
  have hn' : n < (unitsAll C).length := by omega
  show (stkOf _ _).getD n KU0 = _
  simp [stkOf, l_s, untAt, hn', atOf]
 constructor
 case flg =>
  intro n hn
  show flagI _ n ((sagNew C).K.getD n KU0)
  rw [hK n hn]
  unfold flagI
  simp only
  split <;> simp <;> omega
 case own =>
  intro n hn h
  rw [place_at hn] at h
  have := hK n hn
  rw [show (⟨sagNew C, []⟩ : Wk).s.K = (sagNew C).K from rfl, this] at h
  simp only at h
  split at h <;> omega
 case led => exact ⟨rfl, rfl, rfl, rfl, rfl⟩
 case cls => exact List.Pairwise.nil
 case msg => intro m hm; cases hm
 case tim => intro m hm; cases hm
 all_goals (intro i hi; exact absurd hi (by simp [sagNew]))
end
end
section
set_option maxHeartbeats 16000000
def Led.sum (x : Led) : Int := x.a + x.b + x.c + x.d + x.e
def okL (n : Int) : Prop := -1125899906842624 ≤ n ∧ n ≤ 1125899906842624
def Led.ok (x : Led) : Prop := okL x.a ∧ okL x.b ∧ okL x.c ∧ okL x.d ∧ okL x.e
def doneR (r : Ret) : Prop := 6 ≤ r.state ∧ r.state ≤ 9
structure Aud (D : Cfg) (U : List Unt) (s : Sag) : Prop where
 cfg : okCfg D
 sh : shOk U
 ul : U.length ≤ 200
 led : s.led.ok
 rl : s.R.length ≤ 100
 rr : ∀ r ∈ s.R, r.right ∧ ∀ v ∈ r.us, v < U.length
 kl : s.K.length ≤ 200
 ol : s.O.length < 1000000
theorem Aud.len {D : Cfg} {U : List Unt} {s : Sag} (W : Aud D U s) : ∀ r ∈ s.R, r.us.length < 1000000 ∧ r.gs.length < 1000000 := fun r hr => by
 have h := (W.rr r hr).1.2.2.2.2.2.2.2.1
 have h1 := h.1.2
 have h2 := h.2.1
 omega
theorem RDone_ok (x : RetV) (h : Heap) : CallsH Tryz.prog 22 [.agg x.enc.toArray] h fun v h' => v = .bool (dcd (doneR x.r)) ∧ Fr h h' [] := by
 have S := St.nil h
 refine EN i22.eq_1 fun K hK => Wa ?_
 (revert S; (try clear F); refine AL fun b h S F => ?_)
 by_cases h1 : 6 ≤ x.r.state
 ·by_cases h2 : x.r.state ≤ 9
  ·refine We F @RetV.enc.eq_1 h1 h2 ?_
   exact hK _ _ ⟨by rw [dT ⟨h1, h2⟩], S.fr⟩
  ·refine We F @RetV.enc.eq_1 h1 h2 ?_
   exact hK _ _ ⟨by rw [dF fun h => h2 h.2], S.fr⟩
 ·refine Wd F @RetV.enc.eq_1 h1 ?_
  exact hK _ _ ⟨by rw [dF fun h => h1 h.1], S.fr⟩
section
variable {h0 h : Heap} {l : List HP} {p : Nat} {D : Cfg} {s : Sag} {U : List Unt} {A : Option Addr} {c : Nat}
theorem sAa (S : St h0 h l) (hm : stcA D (.slice A U.length c) U ∈ l) : D.rd h ∧ Arr Unt.enc 4 h A U := by
 obtain ⟨h1, A', c', e, h2⟩ := stcA_in S hm
 cases e
 exact ⟨h1, h2⟩
end
end
section
set_option maxHeartbeats 8000000
def cntK (K : List KU) (p : Int) : Nat := (K.filter fun u => decide (u.place = p)).length
def cntTo (K : List KU) : Nat → Nat
 | 0 => 0
 | p + 1 => cntTo K p + cntK K p
theorem cntTo_cons {u : KU} {K : List KU} (h : 0 ≤ u.place) : ∀ n, cntTo (u :: K) n = cntTo K n + if u.place < n then 1 else 0
 | 0 => by simp [cntTo]; omega
 | n + 1 => by
  simp only [cntTo, cntTo_cons h n, cntK, List.filter_cons]
  split <;> split <;> split <;> simp_all <;> omega
theorem cntTo_all : ∀ {K : List KU}, (∀ u ∈ K, 0 ≤ u.place ∧ u.place ≤ 8) → cntTo K 9 = K.length
 | [], _ => rfl
 | u :: K, h => by
  rw [cntTo_cons (h u (by simp)).1, cntTo_all fun x hx => h x (by simp [hx]), if_pos (by have := (h u (by simp)).2; omega)]
  rfl
theorem cntK_succ (K : List KU) (p : Int) {i : Nat} (hi : i < K.length) : cntK (K.take (i + 1)) p = cntK (K.take i) p + if K[i].place = p then 1 else 0 := by
 unfold cntK
 rw [l_t hi, List.filter_append, l_m]
 by_cases h : K[i].place = p <;> simp [h]
theorem cntK_le (K : List KU) (p : Int) : cntK K p ≤ K.length := List.length_filter_le _ _
section
variable {h0 h : Heap} {l : List HP} {k : Nat} {Ks : List KU}
theorem LenK_ok (S : St h0 h (stockA k Ks :: l)) : CallsH Tryz.prog 19 [.pointer (some ⟨k, 0, none⟩)] h fun v h' => v = .int .i64 Ks.length ∧ h' = h := by
 obtain ⟨s, S⟩ := St.stk.1 S
 obtain ⟨A, c, rfl⟩ := S.p1.sl
 refine EN i19.eq_1 fun K hK => Wa ?_
 ((try clear F); have F := S.fx)
 refine Wb F ?_
 exact hK _ _ ⟨rfl, rfl⟩
theorem CountK_ok (n : Int) (S : St h0 h (stockA k Ks :: l)) (hl : Ks.length < 1000000) : CallsH Tryz.prog 18 [.pointer (some ⟨k, 0, none⟩), .int .i64 n] h fun v h' => v = .int .i64 (cntK Ks n : Nat) ∧ Fr h h' [] := by
 obtain ⟨s, S⟩ := St.stk.1 S
 obtain ⟨A, c, rfl⟩ := S.p1.sl
 have ha := S.p1.arr KU.enc_len
 have F := S.fx
 clear S
 have S := St.nil h
 refine EN i18.eq_1 fun K hK => ?_
 refine Wb F ?_
 refine lI (fun ρ h' => ρ 1 = .int .i64 n ∧ ρ 13 = .slice A Ks.length c ∧ ρ 14 = .int .i64 Ks.length ∧ ∃ i : Nat, ρ 15 = .int .i64 i ∧ i ≤ Ks.length ∧ ρ 5 = .int .i64 (cntK (Ks.take i) n : Nat) ∧ St h h' []) (fun ρ _ => Ks.length - (iv (ρ 15)).toNat) ?_ ?_
 ·refine Wa ?_
  exact ⟨0, rfl, by omega, rfl, S⟩
 clear S F
 rintro ρ h1 J hJ ⟨e1, e13, e14, i, e15, hi, e5, S⟩
 refine Wc e14 e15 ?_
 refine cD (fun hlt => ?_) (fun hlt => ?_)
 ·have hil : i < Ks.length := by omega
  have hsn := cntK_succ Ks n hil
  have hle := cntK_le (Ks.take i) n
  rw [l_ad] at hle
  obtain ⟨b, o, hA, q⟩ := (ha.fr S.fr (by simp)).at hil
  generalize Ks[i] = u at *
  refine We e13 e15 hA q ?_
  (revert S; (try clear F); refine AL fun g h S F => ?_)
  refine Wb @KU.enc.eq_1 ?_
  (revert S; (try clear F); refine ST fun h S F => ?_)
  by_cases h1 : u.place = n
  ·rw [if_pos h1] at hsn
   refine Wg e1 e5 e15 F @KU.enc.eq_1 h1 ?_
   refine hJ _ _ ?_ ?_
   ·refine Wd e1 e13 e14 ?_
    exact ⟨i + 1, rfl, by omega, by rw [hsn]; rfl, S.tl⟩
   ·refine Wb e15 ?_
    omega
  ·rw [if_neg h1] at hsn
   refine Wg e1 e5 e15 F @KU.enc.eq_1 h1 ?_
   refine hJ _ _ ?_ ?_
   ·refine Wd e1 e13 e14 ?_
    exact ⟨i + 1, rfl, by omega, by rw [hsn, e5]; rfl, S.tl⟩
   ·refine Wb e15 ?_
    omega
 obtain rfl : i = Ks.length := by omega
 rw [l_aj] at e5
 refine Wb e5 ?_
 exact hK _ _ ⟨rfl, S.fr⟩
end
theorem filter_one {α : Type} {p : α → Bool} : ∀ {l : List α} {i : Nat} (hi : i < l.length), p l[i] = true → (∀ j, (hj : j < l.length) → j ≠ i → p l[j] = false) → (l.filter p).length = 1
 | [], _, h, _, _ => absurd h (by simp)
 | x :: l, 0, _, h1, h2 => by
  rw [List.filter_cons_of_pos (by simpa using h1), l_f, List.filter_eq_nil_iff.2]
  ·rfl
  ·intro y hy
   obtain ⟨j, hj, rfl⟩ := l_af hy
   have := h2 (j + 1) (by simpa using hj) (by omega)
   simp only [List.getElem_cons_succ] at this
   rw [this]
   decide
 | x :: l, i + 1, hi, h1, h2 => by
  have := h2 0 (by simp) (by omega)
  rw [List.filter_cons_of_neg (by simpa using this)]
  exact filter_one (by simpa using hi) h1 fun j hj hne => h2 (j + 1) (by simpa using hj) (by omega)
instance (r : Ret) : Decidable (doneR r) := by unfold doneR; exact inferInstance
def heldB (n pl : Int) (r : Ret) : Bool := decide (r.res = n ∧ ¬ doneR r ∧ pl = 7)
theorem held_one {D : Cfg} {U : List Unt} {w : Wk} (I : Inv D U w 1000 0) {n : Nat} (hn : n < w.s.K.length) : (w.s.R.filter (heldB n (placeK w.s.K n))).length = 1 ↔ placeK w.s.K n = 7 := by
 have hR : ∀ j, (hj : j < w.s.R.length) → w.s.R[j] = w.R j := fun j hj => by unfold Wk.R; rw [l_s, l_r hj]; rfl
 constructor
 ·intro h
  have : w.s.R.filter (heldB n (placeK w.s.K n)) ≠ [] := fun e => by rw [e] at h; simp at h
  obtain ⟨r, hr⟩ := List.exists_mem_of_ne_nil _ this
  have := (List.mem_filter.1 hr).2
  unfold heldB at this
  exact (of_decide_eq_true this).2.2
 ·intro h7
  obtain ⟨i, hi, hres⟩ := I.own n hn h7
  refine filter_one hi ?_ fun j hj hne => ?_
  ·rw [hR i hi]
   have := (I.res i hi).2 (by omega)
   rw [hres] at this
   refine decide_eq_true ⟨hres, fun hd => ?_, h7⟩
   unfold doneR at hd
   omega
  ·rw [hR j hj]
   refine decide_eq_false fun h => ?_
   have := I.dst i hi j hj (fun e => hne e.symm) (by rw [hres, h.1])
   omega
end
section
set_option maxHeartbeats 4000000
structure Loc where
 p : Nat
 k : Nat
 t : Nat
 o : Nat
 A : Option Addr
 c : Nat
def wkA (L : Loc) (D : Cfg) (u : Value) (w : Wk) : HP := exA fun x : Value × List RetV => starsA (pureA (x.2.map RetV.r = w.s.R) :: cellA L.p (sagE D u L.k L.t L.o (.slice L.A w.s.R.length L.c) x.1 w.s) 84 :: stockA L.k w.s.K :: timA L.t w.s.T :: obxA L.o w.s.key w.s.O ::
 ownA RetV.enc 14 59 (.slice L.A w.s.R.length L.c) x.2 :: ownA Msg.enc 6 44 x.1 w.sd :: x.2.map retRow)
section
variable {h0 h : Heap} {l : List HP} {L : Loc} {D : Cfg} {u : Value} {w : Wk} {U : List Unt}
theorem St.wk : St h0 h (wkA L D u w :: l) ↔ ∃ (sd : Value) (vs : List RetV), vs.map RetV.r = w.s.R ∧ St h0 h (cellA L.p (sagE D u L.k L.t L.o (.slice L.A w.s.R.length L.c) sd w.s) 84 :: stockA L.k w.s.K :: timA L.t w.s.T :: obxA L.o w.s.key w.s.O ::
  ownA RetV.enc 14 59 (.slice L.A w.s.R.length L.c) vs :: ownA Msg.enc 6 44 sd w.sd :: (vs.map retRow ++ l)) := by
 rw [wkA, St.ex]
 constructor
 ·rintro ⟨⟨sd, vs⟩, S⟩
  obtain ⟨hv, S⟩ := St.pure.1 (St.stars.1 S)
  exact ⟨sd, vs, hv, S⟩
 ·rintro ⟨sd, vs, hv, S⟩
  exact ⟨⟨sd, vs⟩, St.stars.2 (St.pure.2 ⟨hv, S⟩)⟩
theorem St.wkCell (S : St h0 h (wkA L D u w :: l)) : ∃ sd M, St h0 h (cellA L.p (sagE D u L.k L.t L.o (.slice L.A w.s.R.length L.c) sd w.s) 84 :: M) ∧
  ∀ h' (s' : Sag), s'.K = w.s.K → s'.R = w.s.R → s'.T = w.s.T → s'.key = w.s.key → s'.O = w.s.O → St h0 h' (cellA L.p (sagE D u L.k L.t L.o (.slice L.A w.s.R.length L.c) sd s') 84 :: M) → St h0 h' (wkA L D u { w with s := s' } :: l) := by
 obtain ⟨sd, vs, hv, S⟩ := St.wk.1 S
 refine ⟨sd, _, S, fun h' s' e1 e2 e3 e4 e5 S' => St.wk.2 ⟨sd, vs, ?_, ?_⟩⟩
 ·rw [hv]; exact e2.symm
 ·simp only [e1, e2, e3, e4, e5]
  exact S'
theorem St.wkStock (S : St h0 h (wkA L D u w :: l)) : ∃ M, St h0 h (stockA L.k w.s.K :: M) ∧ ∀ h' K', St h0 h' (stockA L.k K' :: M) → St h0 h' (wkA L D u { w with s := { w.s with K := K' } } :: l) := by
 obtain ⟨sd, vs, hv, S⟩ := St.wk.1 S
 exact ⟨_, S.p1, fun h' K' S' => St.wk.2 ⟨sd, vs, hv, S'.p1⟩⟩
theorem St.wkTim (S : St h0 h (wkA L D u w :: l)) : ∃ M, St h0 h (timA L.t w.s.T :: M) ∧ ∀ h' T', St h0 h' (timA L.t T' :: M) → St h0 h' (wkA L D u { w with s := { w.s with T := T' } } :: l) := by
 obtain ⟨sd, vs, hv, S⟩ := St.wk.1 S
 exact ⟨_, S.p2, fun h' T' S' => St.wk.2 ⟨sd, vs, hv, S'.p2.p2⟩⟩
theorem St.wkObx (S : St h0 h (wkA L D u w :: l)) : ∃ M, St h0 h (obxA L.o w.s.key w.s.O :: M) ∧ ∀ h' key' O', St h0 h' (obxA L.o key' O' :: M) → St h0 h' (wkA L D u { w with s := { w.s with key := key', O := O' } } :: l) := by
 obtain ⟨sd, vs, hv, S⟩ := St.wk.1 S
 exact ⟨_, S.p3, fun h' key' O' S' => St.wk.2 ⟨sd, vs, hv, S'.p3.p3.p3⟩⟩
theorem St.wkRet {b i : Nat} (S : St h0 h (wkA L D u w :: l)) (hA : L.A = some ⟨b, 0, none⟩) (hi : i < w.s.R.length) :
  ∃ x : RetV, x.r = w.R i ∧ (∀ j, j < 14 → rd1 h (.pointer (some ⟨b, i * 14 + j, none⟩)) = x.enc[j]?) ∧ rdN h b (i * 14) 14 = some x.enc ∧ Arr zEnc 1 h x.A x.r.us ∧ Arr zEnc 1 h x.B x.r.gs := by
 obtain ⟨sd, vs, hv, S⟩ := St.wk.1 S
 have hil : i < vs.length := by rw [← hv, l_z] at hi; exact hi
 have e : vs[i].r = w.R i := by
  unfold Wk.R
  rw [← hv, l_s, l_ag, l_r hil]
  rfl
 have S4 := S.p4
 rw [hA] at S4
 obtain ⟨b', o', hb, q⟩ := (S4.arr RetV.enc_len).at hil
 cases hb
 have hr := retRow_in S (x := vs[i]) (by simp only [l_e, l_y]; exact .inr (.inr (.inr (.inr (.inr (.inr (.inl (l_ai (l_v hil)))))))))
 refine ⟨vs[i], e, fun j hj => own_part RetV.enc_len S4 hil hj, ?_, hr.1, hr.2⟩
 rw [Nat.zero_add] at q
 exact q
theorem st_wkSet {b i j : Nat} {v : Value} {r' : Ret} {K : Value → Heap → Prop} {s : Tag h} {t : Tag K} (S : St h0 h (wkA L D u w :: l)) (hA : L.A = some ⟨b, 0, none⟩) (hi : i < w.s.R.length) (hj : j < 14) (hp : pC [v] = true)
  (hu : r'.us = (w.R i).us) (hg : r'.gs = (w.R i).gs) (hx : ∀ x : RetV, x.r = w.R i → RetV.enc { x with r := r' } = splice x.enc j [v]) (hk : ∀ h', St h0 h' (wkA L D u (w.put i r') :: l) → K undef h') : storeT 1 (.pointer (some ⟨b, i * 14 + j, none⟩)) [v] h K s t := by
 obtain ⟨sd, vs, hv, S⟩ := St.wk.1 S
 have hl : vs.length = w.s.R.length := by rw [← hv, l_z]
 have hil : i < vs.length := by omega
 have e : vs[i].r = w.R i := by
  unfold Wk.R
  rw [← hv, l_s, l_ag, l_r hil]
  rfl
 have S4 := S.p4
 rw [hA] at S4
 refine st_setPart RetV.enc_len (i := i) (j := j) (x := { vs[i] with r := r' }) S4 hil rfl (by simp; omega) rfl hp (hx _ e) ?_
 intro h' S'
 rw [← hA] at S'
 refine hk _ (St.wk.2 ⟨sd, vs.set i { vs[i] with r := r' }, ?_, ?_⟩)
 ·rw [List.map_set, hv]; rfl
 ·have e1 : (vs.set i { vs[i] with r := r' }).map retRow = vs.map retRow := by
   rw [List.map_set]
   have : retRow { vs[i] with r := r' } = (vs.map retRow)[i]'(by rw [l_z]; exact hil) := by
    rw [l_ae]
    unfold retRow
    simp only [hu, hg, e]
   rw [this, List.set_getElem_self]
  have e2 : (w.put i r').s.R.length = w.s.R.length := put_len
  rw [e1]
  show St h0 h' (cellA L.p (sagE D u L.k L.t L.o (.slice L.A (w.put i r').s.R.length L.c) sd (w.put i r').s) 84 :: _ :: _ :: _ :: ownA RetV.enc 14 59 (.slice L.A (w.put i r').s.R.length L.c) _ :: _)
  rw [e2]
  exact S'.p4.p4.p4.p4
end
end
end Go.Proofs.YtcgbhcgfdcfmaaaGreat.MX
