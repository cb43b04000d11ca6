import Derived.Test.YtjagmebglhbdkaaGreatK26
namespace Go.Proofs.YtjagmebglhbdkaaGreat.MX
open Go Go.Proofs
set_option linter.unusedSimpArgs false
set_option linter.unusedVariables false
section
section
variable {D : Cfg} {U : List Unt} {w W : Wk} {e i : Nat} {q s : Int} {r : Ret} {K : List KU} {O : List Msg}
theorem a0Z {n to : Int} (h : I8 (i9 K n) to) {m : Int} : i9 (D9 K n to) m = if m = n then to else i9 K m := by
 by_cases hm : 0 ≤ m
 ·rw [a4R hm]
  by_cases e : m = n
  ·subst e; rw [if_pos ⟨h, rfl⟩, if_pos rfl]
  ·rw [if_neg (fun x => e x.2), if_neg e]
 ·have : m ≠ n := fun e => by
   subst e
   have := V8 (K := K) (n := m) (by unfold I8 at h; omega)
   omega
  rw [if_neg this]
  simp [i9, hm]
theorem c0v {st : Int} (I : Inv D U w e 0) (he : w.s.R.length ≤ e) (hi : i < w.s.R.length) (h12 : (w.R i).state = 1 ∨ (w.R i).state = 2) (hst : 7 ≤ st ∧ st ≤ 9)
  (hR : W.s.R = w.s.R.set i { w.R i with state := st, res := -1 }) (hK : W.s.K = if 0 ≤ (w.R i).res then D9 w.s.K (w.R i).res 3 else w.s.K) (hO : W.s.O = dropL w.s.O (i + 1)) (hT : ∀ x ∈ W.s.T, x ∈ w.s.T ∧ x.num ≠ i + 1) (hL : W.s.led = w.s.led) : Inv D U W e 0 := by
 obtain ⟨hR, hn, hs⟩ := a0y hR hi
 have hI := I.ret i hi
 have hr7 : 0 ≤ (w.R i).res → i9 w.s.K (w.R i).res = 7 := fun h => by
  have := (I.res i hi).2 h
  omega
 have hP : ∀ m, i9 W.s.K m = if m = (w.R i).res ∧ 0 ≤ (w.R i).res then 3 else i9 w.s.K m := fun m => by
  rw [hK]
  split
  ·rename_i h
   rw [a0Z (by rw [hr7 h]; decide)]
   simp [h]
  ·rename_i h
   rw [if_neg (fun x => h x.2)]
 have hkl : W.s.K.length = w.s.K.length := by rw [hK]; split; exact O2 _ _ _; rfl
 have hfl : ∀ n < W.s.K.length, a1O U n (W.s.K.getD n KU0) := by
  rw [hK]
  split
  ·exact a2T I.flg _ _
  ·exact I.flg
 have hm : ∀ m, m ∈ W.s.O → m ∈ w.s.O ∧ ¬ (m.rma = i + 1 ∧ m.kind = 1) := fun m h => by
  rw [hO, dropL, List.mem_filter] at h
  exact ⟨h.1, fun hx => by simp [hx.1, hx.2] at h⟩
 have hd : ∀ pr n, M9 pr n W.s.O = M9 pr n w.s.O ∧ j5 n W.s.O = j5 n w.s.O := fun pr n => by
  rw [hO]
  exact a1F fun m _ hp => by
   simp at hp
   exact .inl hp.2
 have hmk : ∀ m ∈ w.s.O, m.kind ≠ 1 → m ∈ W.s.O := fun m h hk => by
  rw [hO, dropL, List.mem_filter]
  simp [h, hk]
 constructor
 case ret =>
  intro j hj
  rw [hR]
  split
  ·subst j
   exact { hI with st := by simp only; omega, g0 := fun _ _ _ => hI.g0 (by omega) (by omega) (by omega), g4 := fun h => by simp only at h; omega, g5 := fun h => by simp only at h; omega, nil := fun _ _ => hI.nil (by omega) (by omega) }
  ·exact I.ret j (by omega)
 case msg =>
  intro m hm'
  have hm1 := hm m hm'
  obtain ⟨a1, a2, a3, a4, a5, a6⟩ := I.msg m hm1.1
  have hd := I.dst i hi (m.rma - 1).toNat (by omega)
  have h8 := fun h : i9 w.s.K m.value = 8 => V8 (K := w.s.K) (n := m.value) (by omega)
  have h2 : m.kind = 1 → (m.rma - 1).toNat ≠ i := fun h => by omega
  generalize hj : (m.rma - 1).toNat = j at *
  constructor <;> (try rw [hj]) <;> grind
 case cls =>
  rw [hO]
  exact I.cls.sublist List.filter_sublist
 case res =>
  intro j hj
  have := I.res j (by omega)
  have := I.dst i hi j (by omega)
  grind [a1T]
 case dst =>
  intro j hj k hk
  have := I.dst j (by omega) k (by omega)
  have := (I.res j (by omega)).1
  grind
 case own =>
  intro n hn' h
  have := I.own n (by omega)
  grind
 case flg => exact hfl
 case thr =>
  intro j hj k hk
  rw [hR] at hk ⊢
  have h := I.thr j (by omega) k (by split at hk <;> simp_all)
  by_cases e : j = i
  ·rw [if_pos e]
   exact ⟨fun h => by simp only at h; omega, fun h => by simp only at h; omega, fun h => by simp only at h; omega⟩
  ·rw [if_neg e]
   generalize (w.R j).us.getD k 0 = u at *
   unfold there at *
   grind
 case dsj => grind [I.dsj]
 case mon =>
  intro j hj
  have h1 := I.mon j (by omega)
  rw [hR, (hd _ _).1]
  grind [fin, tol, prc]
 case cl =>
  intro j hj
  have := I.cl j (by omega)
  have := (hd 0 (j + 1)).2
  grind
 case op =>
  intro j hj
  have := I.op j (by omega)
  have := (hd 0 (j + 1)).2
  grind
 case tim =>
  intro x hx
  have := I.tim x (hT x hx).1
  have := (hT x hx).2
  grind
 case led =>
  have h2 := hI.nil (by omega) (by omega)
  obtain ⟨a1, a2, a3, a4, a5⟩ := I.led
  unfold tol at h2
  constructor <;> rw [hs, hL] <;> simp [a0C, a0G, fin, tol, (show (w.R i).state ≠ 5 by omega), (show (w.R i).state ≠ 6 by omega), (show st ≠ 5 by omega), (show st ≠ 6 by omega)] <;> omega
theorem a8i {t : Int} (I : Inv D U w e 0) (he : w.s.R.length ≤ e) (hi : i < w.s.R.length) (hst : (w.R i).state = t) (ht : t = 2 ∨ t = 3)
  (hR : W.s.R = w.s.R.set i { w.R i with state := t + 1 }) (hK : W.s.K = a5g w.s.K (w.R i).us (t - 1)) (hO : W.s.O = w.s.O) (hT : ∀ x ∈ W.s.T, x ∈ w.s.T ∧ x.num ≠ i + 1 ∨ t = 2 ∧ x.num = i + 1) (hgl : (w.R i).gs.length = (w.R i).us.length) (hL : W.s.led = w.s.led) : Inv D U W e 0 := by
 obtain ⟨hR, hn, hs⟩ := a0y hR hi
 have hI := I.ret i hi
 obtain ⟨hkl, hfl⟩ := a3u (U := U) (t - 1) (us := (w.R i).us) I.flg
 rw [← hK] at hkl hfl
 have hto : ¬ I8 (t - 1) (t - 1) := by unfold I8; omega
 have hP : ∀ m, 0 ≤ m → i9 W.s.K m = if I8 (i9 w.s.K m) (t - 1) ∧ m ∈ (w.R i).us then t - 1 else i9 w.s.K m := fun m hm => by rw [hK]; exact a0u hm hto
 have h1 : ∀ u ∈ (w.R i).us, i9 w.s.K u = t - 2 := fun u hu => by
  obtain ⟨k, hk, rfl⟩ := V0 hu
  have := I.thr i hi k hk
  rw [l6 hk] at this
  obtain ⟨q1, q2, _⟩ := this
  rcases ht with h | h
  ·rw [q1 (by omega)]; omega
  ·rw [q2 (by omega)]; omega
 have hPu : ∀ m ∈ (w.R i).us, i9 W.s.K m = t - 1 := fun m hm => by
  have := h1 m hm
  rw [hP m (V8 (K := w.s.K) (by omega)), if_pos ⟨by rw [this]; unfold I8; omega, hm⟩]
 have hP0 : ∀ m, m ∉ (w.R i).us → i9 W.s.K m = i9 w.s.K m := fun m hm => by
  by_cases h0 : 0 ≤ m
  ·rw [hP m h0, if_neg (fun h => hm h.2)]
  ·simp [i9, h0]
 have hP7 : ∀ m, i9 w.s.K m = 7 ∨ i9 w.s.K m = 8 → i9 W.s.K m = i9 w.s.K m := fun m hm => hP0 m fun h => by have := h1 m h; omega
 have hP6 : ∀ m, i9 W.s.K m = 7 → i9 w.s.K m = 7 := fun m hm => by
  by_cases h : m ∈ (w.R i).us
  ·have := hPu m h; omega
  ·rw [← hP0 m h]; exact hm
 constructor
 case ret =>
  intro j hj
  rw [hR]
  split
  ·subst j
   have := hI.g0 (by omega) (by omega) (by omega)
   exact { hI with st := by simp only; omega, g0 := fun _ _ _ => this, g4 := fun h g hg => by have := this g hg; omega, g5 := fun h => by simp only at h; omega, nil := fun _ _ => hI.nil (by omega) (by omega) }
  ·exact I.ret j (by omega)
 case msg =>
  intro m hm
  obtain ⟨a1, a2, a3, a4, a5, a6⟩ := I.msg m (by grind)
  generalize hj : (m.rma - 1).toNat = j at *
  constructor <;> (try rw [hj]) <;> grind
 case cls => grind [I.cls]
 case res =>
  intro j hj
  have := I.res j (by omega)
  grind [a1T]
 case dst => grind [I.dst]
 case own =>
  intro n hn7 h7
  obtain ⟨j, hj, h⟩ := I.own n (by omega) (hP6 n h7)
  exact ⟨j, by omega, by rw [hR]; split <;> simp_all⟩
 case flg => exact hfl
 case thr =>
  intro j hj k hk
  rw [hR] at hk ⊢
  split at hk
  ·rename_i e
   rw [if_pos e]
   have hk' : k < (w.R i).us.length := hk
   have h2 := hPu _ (l_v hk')
   have hgk : (w.R i).gs.getD k 0 = -1 := by
    have := hI.g0 (by omega) (by omega) (by omega) _ (l_v (by omega : k < (w.R i).gs.length))
    rwa [l6]
   simp only
   rw [l6 hk', h2, hgk]
   exact ⟨fun h => by omega, fun h => by omega, fun h => ⟨fun _ => by omega, fun h => by omega⟩⟩
  ·rename_i e
   rw [if_neg e]
   have h := I.thr j (by omega) k hk
   by_cases h5 : (w.R j).state ≤ 5
   ·rw [hP0 _ (I.dsj j (by omega) i hi e h5 (by omega) _ (by rw [l6 hk]; exact l_v hk))]; exact h
   ·exact ⟨fun h => by omega, fun h => by omega, fun h => by omega⟩
 case dsj => grind [I.dsj]
 case mon =>
  intro j hj
  have h1 := I.mon j (by omega)
  grind [fin, tol, prc]
 case cl =>
  intro j hj
  have := I.cl j (by omega)
  grind
 case op =>
  intro j hj
  have := I.op j (by omega)
  grind
 case tim =>
  intro x hx
  rcases hT x hx with ⟨h1, h2⟩ | ⟨h1, h2⟩
  ·have := I.tim x h1
   grind
  ·have : (x.num - 1).toNat = i := by omega
   grind
 case led =>
  have h2 := hI.nil (by omega) (by omega)
  obtain ⟨a1, a2, a3, a4, a5⟩ := I.led
  unfold tol at h2
  constructor <;> rw [hs, hL] <;> simp [a0C, a0G, fin, tol, (show (w.R i).state ≠ 5 by omega), (show (w.R i).state ≠ 6 by omega), (show t + 1 ≠ 5 by omega), (show t + 1 ≠ 6 by omega)] <;> omega
end
end
section
section
variable {D : Cfg} {U : List Unt} {w W : Wk} {e i j : Nat} {q s : Int} {r : Ret} {K : List KU} {O : List Msg}
theorem a8Z {g to n : Int} {k : Nat} {M : List Msg} (I : Inv D U w e 0) (he : w.s.R.length ≤ e) (hi : i < w.s.R.length) (h4 : (w.R i).state = 4) (hk : k < (w.R i).us.length) (hgl : (w.R i).gs.length = (w.R i).us.length) (hgk : (w.R i).gs.getD k 0 = -1) (hg : 0 ≤ g ∧ g ≤ 3)
  (hto : to = 3 ∨ to = 4 ∨ to = 5 ∨ to = 8) (hinj : ∀ a < (w.R i).us.length, ∀ b < (w.R i).us.length, (w.R i).us.getD a 0 = (w.R i).us.getD b 0 → a = b) (hn0 : n = P8 D.ps U { w.R i with gs := (w.R i).gs.set k g })
  (hM : M = [] ∨ ∃ m, M = [m] ∧ to = 8 ∧ m.kind = 4 ∧ m.rma = i + 1 ∧ m.value = (w.R i).us.getD k 0)
  (hR : W.s.R = w.s.R.set i { w.R i with gs := (w.R i).gs.set k g, worth := n }) (hK : W.s.K = D9 w.s.K ((w.R i).us.getD k 0) to) (hO : W.s.O = w.s.O ++ M) (hT : W.s.T = w.s.T) (hL : W.s.led = w.s.led) : Inv D U W e 0 := by
 obtain ⟨hR, hn, hs⟩ := a0y hR hi
 have hI := I.ret i hi
 generalize hu : (w.R i).us.getD k 0 = u at *
 have hum : u ∈ (w.R i).us := by rw [← hu, l6 hk]; exact l_v hk
 have h2 : i9 w.s.K u = 2 := by
  have := (I.thr i hi k hk).2.2 h4
  rw [hu, hgk] at this
  exact this.1 (by omega)
 have hP : ∀ m, i9 W.s.K m = if m = u then to else i9 w.s.K m := fun m => by
  rw [hK]
  exact a0Z (by rw [h2]; unfold I8; omega)
 have hfl := a2T (U := U) I.flg u to
 rw [← hK] at hfl
 have hkl : W.s.K.length = w.s.K.length := by rw [hK]; exact O2 _ _ _
 have hu0 : 0 ≤ u := V8 (K := w.s.K) (by omega)
 have hd : ∀ pr x, M9 pr x W.s.O = M9 pr x w.s.O := fun pr x => by
  rw [hO]
  rcases hM with rfl | ⟨m, rfl, _, hk, _⟩
  ·rw [D6]
  ·rw [a7h, a1v, if_neg (show ¬ m.kind = 2 by omega), if_neg (show ¬ m.kind = 3 by omega)]
   simp
 have hw : ∀ x, x ≠ (i : Int) + 1 → j5 x W.s.O = j5 x w.s.O := fun x hx => by
  rw [hO]
  rcases hM with rfl | ⟨m, rfl, _, hk, hr, _⟩
  ·rw [D6]
  ·rw [a1L, if_neg (fun h => hx (by omega))]
   rfl
 constructor
 case ret =>
  intro j hj
  rw [hR]
  split
  ·subst j
   have h3 : ∀ x ∈ (w.R i).gs.set k g, x ≤ 3 := fun x hx => by
    rcases List.mem_or_eq_of_mem_set hx with h | h
    ·exact hI.g4 h4 x h
    ·omega
   exact { hI with g0 := fun h => absurd h4 h, g4 := fun _ => h3, g5 := fun h => by simp only at h; omega, worth := by simp only; rw [hn0]; rfl }
  ·exact I.ret j (by omega)
 case msg =>
  intro m hm
  rw [hO] at hm
  rcases List.mem_append.1 hm with h | h
  ·obtain ⟨a1, a2, a3, a4, a5, a6⟩ := I.msg m h
   generalize hj : (m.rma - 1).toNat = j at *
   constructor <;> (try rw [hj]) <;> grind
  ·rcases hM with rfl | ⟨m', rfl, h8, hk4, hr, hv⟩
   ·cases h
   ·obtain rfl := List.mem_singleton.1 h
    have hj : (m.rma - 1).toNat = i := by omega
    refine ⟨by omega, by omega, by omega, by omega, by omega, fun _ => ⟨.inl (by rw [hj, hR, if_pos rfl]; exact h4), by rw [hP, if_pos hv]; exact h8, fun j hj2 => ?_⟩⟩
    have := I.res j (by omega)
    have h6 : (W.R j).res = (w.R j).res := by rw [hR]; split <;> simp_all
    unfold a1T at this
    rw [h6, hv]
    intro he
    rw [he, h2] at this
    omega
 case cls =>
  rw [hO, a1g]
  refine ⟨I.cls, ?_, fun a ha b hb => ?_⟩
  ·rcases hM with rfl | ⟨m', rfl, _⟩ <;> simp
  ·rcases hM with rfl | ⟨m', rfl, h8, hk4, hr, hv⟩
   ·cases hb
   ·obtain rfl := List.mem_singleton.1 hb
    have := (I.msg a ha).k4
    unfold a1b
    grind
 case res =>
  intro j hj
  have := I.res j (by omega)
  have h3 : ∀ x ∈ W.s.O, x.kind = 3 → x ∈ w.s.O := fun x hx h3 => by
   rw [hO] at hx
   rcases List.mem_append.1 hx with h | h
   ·exact h
   ·rcases hM with rfl | ⟨m', rfl, _, hk4, _⟩
    ·cases h
    ·obtain rfl := List.mem_singleton.1 h; omega
  have h4 : ∀ x ∈ w.s.O, x ∈ W.s.O := fun x hx => by rw [hO]; exact X6 _ hx
  grind [a1T]
 case dst => grind [I.dst]
 case own =>
  intro n hn' h
  have := I.own n (by omega)
  grind
 case flg => exact hfl
 case thr =>
  intro j hj k' hk'
  rw [hR] at hk' ⊢
  split at hk'
  ·rename_i e
   subst e
   rw [if_pos rfl]
   have hk2 : k' < (w.R j).us.length := hk'
   have h := I.thr j (by omega) k' hk2
   simp only
   by_cases e2 : k' = k
   ·subst e2
    rw [hu, hP, if_pos rfl, l_s, List.getElem?_set_self (by omega)]
    exact ⟨fun h => by omega, fun h => by omega, fun _ => ⟨fun h => by simp at h; omega, fun _ => by omega⟩⟩
   ·have hne : (w.R j).us.getD k' 0 ≠ u := fun e3 => e2 (hinj k' hk2 k hk (by rw [e3, hu]))
    rw [hP, if_neg hne, l_s (l := (w.R j).gs.set k g), List.getElem?_set_ne (by omega), ← l_s]
    exact h
  ·rename_i e
   rw [if_neg e]
   have h := I.thr j (by omega) k' hk'
   by_cases h5 : (w.R j).state ≤ 5
   ·have hin : (w.R j).us.getD k' 0 ∈ (w.R j).us := by rw [l6 hk']; exact l_v hk'
    have := I.dsj j (by omega) i hi e h5 (by omega) _ hin
    rw [hP, if_neg (fun e => this (by rw [e]; exact hum))]; exact h
   ·exact ⟨fun h => by omega, fun h => by omega, fun h => by omega⟩
 case dsj => grind [I.dsj]
 case mon =>
  intro j hj
  have h1 := I.mon j (by omega)
  rw [hd]
  grind [fin, tol, prc]
 case cl =>
  intro j hj
  have := I.cl j (by omega)
  have := hw (j + 1)
  grind
 case op =>
  intro j hj
  have := I.op j (by omega)
  have := hw (j + 1)
  grind
 case tim =>
  intro x hx
  have := I.tim x (by grind)
  grind
 case led =>
  obtain ⟨a1, a2, a3, a4, a5⟩ := I.led
  constructor <;> rw [hs, hL] <;> simp [a0C, a0G, fin, tol, h4] <;> omega
structure b9a (O O' : List Msg) (m : Msg) : Prop where
 mem : m ∈ O
 sub : O'.Sublist O
 old : ∀ x ∈ O, x = m ∨ x ∈ O'
 due : ∀ pr n, M9 pr n O = M9 pr n O' + a1v pr n m
 wts : ∀ n, j5 n O = j5 n O' + if m.rma = n ∧ m.kind ≠ 1 then 1 else 0
 no : O.Pairwise (fun a b => ¬ a1b a b) → ∀ x ∈ O', ¬ a1b x m
theorem b6f {a b : Msg} (h : a1b a b) : a1b b a := by unfold a1b at *; grind
theorem b4m : ∀ {O : List Msg} {j : Nat} (hj : j < O.length), b9a O (O.take j ++ O.drop (j + 1)) O[j]
 | [], j, hj => absurd hj (by simp)
 | x :: O, 0, _ => ⟨by simp, by simp, fun y hy => by simpa using hy, fun pr n => by simp [M9]; omega, fun n => by
   have := a1L (O := []) n x
   unfold j5 at this ⊢
   simp only [List.filter_cons, List.getElem_cons_zero, a1U, l_k, List.drop_succ_cons, a4D] at *
   split <;> simp_all, fun h y hy hc => (List.pairwise_cons.1 h).1 y (by simpa using hy) (b6f hc)⟩
 | x :: O, j + 1, hj => by
  have h := b4m (O := O) (j := j) (by simpa using hj)
  obtain ⟨a, b, c, d, e, f⟩ := h
  simp only [a6X, List.drop_succ_cons, List.getElem_cons_succ, l_j]
  refine ⟨by simp, b.cons_cons _, fun y hy => ?_, fun pr n => ?_, fun n => ?_, fun h y hy hc => ?_⟩
  ·grind
  ·have := d pr n
   simp only [M9, H2, K7] at this ⊢
   omega
  ·have := e n
   unfold j5 at this ⊢
   simp only [List.filter_cons]
   split <;> simp_all <;> omega
  ·rw [List.pairwise_cons] at h
   rcases List.mem_cons.1 hy with rfl | hy
   ·exact h.1 _ (l_v _) hc
   ·exact f h.2 y hy hc
theorem b5V {m : Msg} (I : Inv D U w e 0) (he : w.s.R.length ≤ e) (hi : i < w.s.R.length) (hm : b9a w.s.O W.s.O m) (hk : m.kind = 1) (hr : m.rma = i + 1)
  (hR : W.s.R = w.s.R.set i { w.R i with state := 2 }) (hK : W.s.K = w.s.K) (hT : W.s.T = w.s.T) (hL : W.s.led = w.s.led) : Inv D U W e 0 := by
 obtain ⟨hR, hn, hs⟩ := a0y hR hi
 have hI := I.ret i hi
 have hx : (m.rma - 1).toNat = i := by omega
 have h1 : (w.R i).state = 1 := by have := (I.msg m hm.mem).k1 hk; rwa [hx] at this
 have hd : ∀ pr n, M9 pr n W.s.O = M9 pr n w.s.O := fun pr n => by
  rw [hm.due pr n, a1v, if_neg (show ¬ m.kind = 2 by omega), if_neg (show ¬ m.kind = 3 by omega)]; simp
 have hw : ∀ n, j5 n W.s.O = j5 n w.s.O := fun n => by rw [hm.wts n, if_neg (fun h => h.2 hk)]; rfl
 have hno : ∀ x ∈ W.s.O, x.kind = 1 → x.rma ≠ i + 1 := fun x hx hk1 hr1 => hm.no I.cls x hx (by unfold a1b; omega)
 constructor
 case ret =>
  intro j hj
  rw [hR]
  split
  ·subst j
   exact { hI with st := by simp only; omega, g0 := fun _ _ _ => hI.g0 (by omega) (by omega) (by omega), g4 := fun h => by simp only at h; omega, g5 := fun h => by simp only at h; omega, nil := fun _ _ => hI.nil (by omega) (by omega) }
  ·exact I.ret j (by omega)
 case msg =>
  intro x hx'
  obtain ⟨a1, a2, a3, a4, a5, a6⟩ := I.msg x (hm.sub.subset hx')
  have := hno x hx'
  have : x.kind = 1 → (x.rma - 1).toNat ≠ i := fun h => by have := this h; omega
  generalize hj : (x.rma - 1).toNat = j at *
  constructor <;> (try rw [hj]) <;> grind
 case cls => exact I.cls.sublist hm.sub
 case res =>
  intro j hj
  have := I.res j (by omega)
  have h3 : ∀ x ∈ w.s.O, x.kind = 3 → x ∈ W.s.O := fun x hx h3 => (hm.old x hx).resolve_left fun e => by subst e; omega
  have h4 : ∀ x ∈ W.s.O, x ∈ w.s.O := fun x hx => hm.sub.subset hx
  grind [a1T]
 case dst => grind [I.dst]
 case own => grind [I.own]
 case flg => grind [I.flg]
 case thr =>
  intro j hj
  have := I.thr j (by omega)
  grind [there]
 case dsj => grind [I.dsj]
 case mon =>
  intro j hj
  have h1 := I.mon j (by omega)
  rw [hd]
  grind [fin, tol, prc]
 case cl =>
  intro j hj
  have := I.cl j (by omega)
  have := hw (j + 1)
  grind
 case op =>
  intro j hj
  have := I.op j (by omega)
  have := hw (j + 1)
  grind
 case tim =>
  intro x hx
  have := I.tim x (by grind)
  grind
 case led =>
  have h2 := hI.nil (by omega) (by omega)
  obtain ⟨a1, a2, a3, a4, a5⟩ := I.led
  unfold tol at h2
  constructor <;> rw [hs, hL] <;> simp [a0C, a0G, fin, tol, h1] <;> omega
theorem a2S {m : Msg} (I : Inv D U w e 0) (he : w.s.R.length ≤ e) (hi : i < w.s.R.length) (hm : b9a w.s.O W.s.O m) (hr : m.rma = i + 1) (hR : W.s.R = w.s.R) (hT : W.s.T = w.s.T) (hL : W.s.led = w.s.led)
  (hk : m.kind = 1 ∧ W.s.K = w.s.K ∧ q = 0 ∨ m.kind = 2 ∧ W.s.K = w.s.K ∧ q = m.value ∨ m.kind = 3 ∧ W.s.K = w.s.K ∧ q = prc D.ss (w.R i) ∨ m.kind = 4 ∧ q = 0 ∧ ∃ to, (to = 0 ∨ to = 6) ∧ W.s.K = D9 w.s.K m.value to) : Inv D U W i q := by
 have hx2 : ∀ j, W.R j = w.R j := fun j => by unfold Wk.R; rw [hR]
 have hn : W.s.R.length = w.s.R.length := by rw [hR]
 have hx : (m.rma - 1).toNat = i := by omega
 have hIm := I.msg m hm.mem
 have hP : ∃ to, (m.kind = 4 → to = 0 ∨ to = 6) ∧ ∀ n, i9 W.s.K n = if n = m.value ∧ m.kind = 4 then to else i9 w.s.K n := by
  rcases hk with ⟨h, hk, _⟩ | ⟨h, hk, _⟩ | ⟨h, hk, _⟩ | ⟨h, _, to, h0, hk⟩
  ·exact ⟨0, fun h => by omega, fun n => by rw [if_neg (fun h => by omega), hk]⟩
  ·exact ⟨0, fun h => by omega, fun n => by rw [if_neg (fun h => by omega), hk]⟩
  ·exact ⟨0, fun h => by omega, fun n => by rw [if_neg (fun h => by omega), hk]⟩
  ·refine ⟨to, fun _ => h0, fun n => ?_⟩
   have := (hIm.k4 h).2.1
   rw [hk, a0Z (by rw [this]; unfold I8; omega)]
   simp [h]
 obtain ⟨to, hto, hP⟩ := hP
 have hfl : W.s.K.length = w.s.K.length ∧ ∀ n < W.s.K.length, a1O U n (W.s.K.getD n KU0) := by
  rcases hk with ⟨h, hk, _⟩ | ⟨h, hk, _⟩ | ⟨h, hk, _⟩ | ⟨h, _, to, h0, hk⟩
  ·rw [hk]; exact ⟨rfl, I.flg⟩
  ·rw [hk]; exact ⟨rfl, I.flg⟩
  ·rw [hk]; exact ⟨rfl, I.flg⟩
  ·rw [hk]; exact ⟨O2 _ _ _, a2T I.flg _ _⟩
 have hno := hm.no I.cls
 constructor
 case ret => intro j hj; rw [hx2]; exact I.ret j (by omega)
 case msg =>
  intro x hx'
  have hc := hno x hx'
  obtain ⟨a1, a2, a3, a4, a5, a6⟩ := I.msg x (hm.sub.subset hx')
  obtain ⟨b1, b2, b3, b4, b5, b6⟩ := hIm
  unfold a1b at hc
  generalize hj : (x.rma - 1).toNat = j at *
  constructor <;> (try rw [hj]) <;> grind
 case cls => exact I.cls.sublist hm.sub
 case res =>
  intro j hj
  have := I.res j (by omega)
  have h3 : ∀ x ∈ w.s.O, x.kind = 3 → j ≠ i → x.rma = (w.R j).num → x ∈ W.s.O := fun x hx h3 hne hnum => (hm.old x hx).resolve_left fun e => by
   subst e
   have := (I.ret j (by omega)).num
   omega
  have h4 : ∀ x ∈ W.s.O, x ∈ w.s.O := fun x hx => hm.sub.subset hx
  have h5 := hIm.k4
  grind [a1T]
 case dst => grind [I.dst]
 case own =>
  intro n hn' h
  have := I.own n (by omega)
  grind
 case flg => exact hfl.2
 case thr =>
  intro j hj k hk'
  rw [hx2] at hk' ⊢
  have h := I.thr j (by omega) k hk'
  have h5 := hIm.k4
  generalize (w.R j).us.getD k 0 = u at *
  unfold there at *
  grind
 case dsj => grind [I.dsj]
 case mon =>
  intro j hj
  have h1 := I.mon j (by omega)
  have h2 := hm.due (prc D.ss (w.R j)) (j + 1)
  rw [hx2]
  unfold a1v at h2
  grind
 case cl =>
  intro j hj h6
  rw [hx2] at h6
  have h1 := I.cl j (by omega) h6
  have h2 := hm.wts (j + 1)
  obtain ⟨b1, b2, b3, b4, b5, b6⟩ := hIm
  grind
 case op =>
  intro j hj
  have := I.op j (by omega)
  have h2 := hm.wts (j + 1)
  grind
 case tim =>
  intro x hx
  have := I.tim x (by grind)
  grind
 case led =>
  obtain ⟨a1, a2, a3, a4, a5⟩ := I.led
  constructor <;> rw [hL, hR] <;> assumption
end
end
section
section
variable {D : Cfg} {U : List Unt} {w W : Wk} {e i j : Nat} {q s : Int} {r : Ret} {K : List KU} {O : List Msg}
theorem b5s (I : Inv D U w i q) (hi : i < w.s.R.length) (h5 : (w.R i).state = 5) (hr : 0 ≤ (w.R i).res) (h7 : i9 w.s.K (w.R i).res = 7) (hno : ∀ x ∈ w.s.O, x.kind = 3 → x.rma ≠ i + 1) (hs0 : 0 ≤ s)
  (hR : W.s.R = w.s.R.set i { w.R i with given := (w.R i).given + s }) (hK : W.s.K = D9 w.s.K (w.R i).res 8) (hO : W.s.O = w.s.O) (hT : W.s.T = w.s.T) (hL : W.s.led = ⟨w.s.led.a, w.s.led.b - s, w.s.led.c, w.s.led.d, w.s.led.e + s⟩) : Inv D U W i (q - s) := by
 obtain ⟨hR, hn, hs⟩ := a0y hR hi
 have hI := I.ret i hi
 have hfl := a2T (U := U) I.flg (w.R i).res 8
 have hkl : W.s.K.length = w.s.K.length := by rw [hK]; exact O2 _ _ _
 rw [← hK] at hfl
 have hP : ∀ m, i9 W.s.K m = if m = (w.R i).res then 8 else i9 w.s.K m := fun m => by rw [hK]; exact a0Z (by rw [h7]; decide)
 constructor
 case ret =>
  intro j hj
  rw [hR]
  split
  ·subst j
   exact { hI with pos := by have := hI.pos; simp only; omega, nil := fun h => absurd h5 h }
  ·exact I.ret j (by omega)
 case msg =>
  intro m hm
  obtain ⟨a1, a2, a3, a4, a5, a6⟩ := I.msg m (by grind)
  have hd := I.dst i hi (m.rma - 1).toNat (by omega)
  have hnr : m.kind = 3 → (m.rma - 1).toNat ≠ i := fun h => by have := hno m (by grind) h; omega
  generalize hj : (m.rma - 1).toNat = j at *
  constructor <;> (try rw [hj]) <;> grind
 case cls => grind [I.cls]
 case res =>
  intro j hj
  have := I.res j (by omega)
  have := I.dst i hi j (by omega)
  have := (I.ret j (by omega)).num
  grind [a1T]
 case dst => grind [I.dst]
 case own =>
  intro n hn' h
  have := I.own n (by omega)
  grind
 case flg => exact hfl
 case thr =>
  intro j hj k hk
  rw [hR] at hk ⊢
  have h := I.thr j (by omega) k (by split at hk <;> simp_all)
  by_cases e : j = i
  ·rw [if_pos e]
   exact ⟨fun h => by simp only at h; omega, fun h => by simp only at h; omega, fun h => by simp only at h; omega⟩
  ·rw [if_neg e]
   generalize (w.R j).us.getD k 0 = u at *
   unfold there at *
   grind
 case dsj => grind [I.dsj]
 case mon =>
  intro j hj
  have h1 := I.mon j (by omega)
  grind [fin, tol, prc]
 case cl =>
  intro j hj
  have := I.cl j (by omega)
  grind
 case op =>
  intro j hj
  have := I.op j (by omega)
  grind
 case tim =>
  intro x hx
  have := I.tim x (by grind)
  grind
 case led =>
  obtain ⟨a1, a2, a3, a4, a5⟩ := I.led
  constructor <;> rw [hs, hL] <;> simp [a0C, a0G, fin, tol, h5] <;> omega
theorem a2l (I : Inv D U w e q) (hR : W.s.R = w.s.R) (hK : W.s.K = w.s.K) (hL : W.s.led = w.s.led) (hT : ∀ x ∈ W.s.T, x ∈ w.s.T) {f : Msg → Msg} {p : Msg → Bool} (hf : ∀ m, (f m).kind = m.kind ∧ (f m).rma = m.rma ∧ (f m).value = m.value) (hp : ∀ m ∈ w.s.O, p m = false → m.kind = 1) (hO : W.s.O = (w.s.O.filter p).map f) : Inv D U W e q := by
 have hx2 : ∀ j, W.R j = w.R j := fun j => by unfold Wk.R; rw [hR]
 have hn : W.s.R.length = w.s.R.length := by rw [hR]
 have hm : ∀ x ∈ W.s.O, ∃ y ∈ w.s.O, x.kind = y.kind ∧ x.rma = y.rma ∧ x.value = y.value := fun x hx => by
  rw [hO] at hx
  obtain ⟨y, hy, rfl⟩ := List.mem_map.1 hx
  exact ⟨y, (List.mem_filter.1 hy).1, hf y⟩
 have hm' : ∀ y ∈ w.s.O, y.kind ≠ 1 → ∃ x ∈ W.s.O, x.kind = y.kind ∧ x.rma = y.rma := fun y hy hk => by
  rw [hO]
  refine ⟨f y, a3w (List.mem_filter.2 ⟨hy, ?_⟩), (hf y).1, (hf y).2.1⟩
  cases h : p y with
  | true => rfl
  | false => exact absurd (hp y hy h) hk
 have hd : ∀ pr n, M9 pr n W.s.O = M9 pr n w.s.O := fun pr n => by
  rw [hO, ← (a1F (pr := pr) (n := n) (p := p) (O := w.s.O) fun m h1 h2 => .inl (hp m h1 h2)).1]
  unfold M9
  rw [List.map_map]
  congr 1
  refine List.map_congr_left fun m _ => ?_
  have := hf m
  simp [a1v, this]
 have hw : ∀ n, j5 n W.s.O = j5 n w.s.O := fun n => by
  rw [hO, ← (a1F (pr := 0) (n := n) (p := p) (O := w.s.O) fun m h1 h2 => .inl (hp m h1 h2)).2]
  unfold j5
  rw [List.filter_map, l_z]
  congr 2
  funext m
  have := hf m
  simp [this]
 constructor
 case ret => intro j hj; rw [hx2]; exact I.ret j (by omega)
 case msg =>
  intro x hx
  obtain ⟨y, hy, e1, e2, e3⟩ := hm x hx
  obtain ⟨a1, a2, a3, a4, a5, a6⟩ := I.msg y hy
  rw [← e1, ← e2, ← e3] at *
  generalize hj : (x.rma - 1).toNat = j at *
  constructor <;> (try rw [hj]) <;> grind
 case cls =>
  rw [hO, List.pairwise_map]
  refine (I.cls.sublist List.filter_sublist).imp fun {a b} h => ?_
  have := hf a
  have := hf b
  unfold a1b at *
  grind
 case res =>
  intro j hj
  have := I.res j (by omega)
  unfold a1T at *
  grind
 case dst => grind [I.dst]
 case own => grind [I.own]
 case flg => grind [I.flg]
 case thr => grind [I.thr]
 case dsj => grind [I.dsj]
 case mon =>
  intro j hj
  have h1 := I.mon j (by omega)
  rw [hd, hx2]
  exact h1
 case cl =>
  intro j hj
  rw [hw, hx2]
  exact I.cl j (by omega)
 case op =>
  intro j hj
  rw [hw, hx2]
  exact I.op j (by omega)
 case tim =>
  intro x hx
  have := I.tim x (hT x hx)
  grind
 case led =>
  obtain ⟨a1, a2, a3, a4, a5⟩ := I.led
  constructor <;> rw [hL, hR] <;> assumption
theorem c2p {m : Msg} (I : Inv D U w e 0) (he : w.s.R.length + 1 ≤ e) (hr : c1P D U w.s.R.length r) (h1 : r.state = 1) (hm : m.kind = 1 ∧ m.rma = w.s.R.length + 1)
  (hp0 : ∀ u ∈ r.us, i9 w.s.K u = 0) (hds : ∀ j < w.s.R.length, (w.R j).state ≤ 5 → ∀ u ∈ r.us, u ∉ (w.R j).us)
  (hres : r.res = -1 ∧ W.s.K = w.s.K ∨ ∃ n : Nat, n < w.s.K.length ∧ r.res = n ∧ i9 w.s.K n = 3 ∧ W.s.K = w.s.K.set n { w.s.K.getD n KU0 with place := 7 } ∧ (s9 D.ss r.want).isSome = true)
  (hR : W.s.R = w.s.R ++ [r]) (hO : W.s.O = w.s.O ++ [m]) (hT : ∀ x ∈ W.s.T, x ∈ w.s.T ∨ x.num = w.s.R.length + 1) (hL : W.s.led = w.s.led) : Inv D U W e 0 := by
 have hn : W.s.R.length = w.s.R.length + 1 := by rw [hR]; simp
 have hx : ∀ j, W.R j = if j = w.s.R.length then r else w.R j := fun j => by
  unfold Wk.R
  rw [hR, l_s, l_s]
  split
  ·rename_i h; subst h; simp
  ·rename_i h
   by_cases h2 : j < w.s.R.length
   ·rw [List.getElem?_append_left h2]
   ·rw [a0s (by simp; omega), a0s (by omega)]
 have hd : ∀ pr n, M9 pr n W.s.O = M9 pr n w.s.O := fun pr n => by
  rw [hO, a7h, a1v, if_neg (show ¬ m.kind = 2 by omega), if_neg (show ¬ m.kind = 3 by omega)]; simp
 have hw : ∀ n, j5 n W.s.O = j5 n w.s.O := fun n => by rw [hO, a1L, if_neg (fun h => h.2 hm.1)]; rfl
 have hP : W.s.K.length = w.s.K.length ∧ (∀ n, i9 W.s.K n = if n = r.res ∧ 0 ≤ r.res then 7 else i9 w.s.K n) ∧ ∀ n < W.s.K.length, a1O U n (W.s.K.getD n KU0) := by
  rcases hres with ⟨h, hk⟩ | ⟨n, hn, h, h3, hk, _⟩
  ·rw [hk]; exact ⟨rfl, fun n => by rw [if_neg (by omega)], I.flg⟩
  ·rw [hk]
   refine ⟨by simp, fun k => ?_, fun k hk2 => ?_⟩
   ·by_cases e : k = n
    ·subst e; rw [if_pos (by omega), a1l (by simpa using hn)]; simp [List.getElem?_set_self hn]
    ·rw [if_neg (by omega)]
     unfold i9
     split
     ·rw [List.getElem?_set_ne (by omega)]
     ·rfl
   ·by_cases e : n = k
    ·subst e
     have hf := I.flg n hn
     rw [a1l hn] at h3
     rw [l_s, List.getElem?_set_self hn, Option.getD_some]
     unfold a1O at *
     grind
    ·rw [l_s, List.getElem?_set_ne e, ← l_s]
     exact I.flg k (by simpa using hk2)
 obtain ⟨hkl, hP, hfl⟩ := hP
 have hr3 : 0 ≤ r.res → i9 w.s.K r.res = 3 ∧ (s9 D.ss r.want).isSome = true := fun h => by
  rcases hres with ⟨h, _⟩ | ⟨n, _, h, h3, _, h4⟩
  ·omega
  ·rw [h]; exact ⟨h3, h4⟩
 have hrm : -1 ≤ r.res := by rcases hres with ⟨h, _⟩ | ⟨n, _, h, _⟩ <;> omega
 have hrg : ∀ j < w.s.R.length, 0 ≤ (w.R j).res → (w.R j).res ≠ r.res := fun j hj h0 h => by
  have := (I.res j hj).2 h0
  have := (hr3 (by omega)).1
  rw [← h] at this
  omega
 constructor
 case ret =>
  intro j hj
  rw [hx]
  split
  ·rename_i h; rw [h]; exact hr
  ·exact I.ret j (by omega)
 case msg =>
  intro x hx'
  rw [hO] at hx'
  rcases List.mem_append.1 hx' with h | h
  ·obtain ⟨a1, a2, a3, a4, a5, a6⟩ := I.msg x h
   have : (x.rma - 1).toNat < w.s.R.length := by omega
   have h8 := fun h : i9 w.s.K x.value = 8 => V8 (K := w.s.K) (n := x.value) (by omega)
   generalize hj : (x.rma - 1).toNat = j at *
   constructor <;> (try rw [hj]) <;> grind
  ·obtain rfl := List.mem_singleton.1 h
   have : (x.rma - 1).toNat = w.s.R.length := by omega
   refine ⟨by omega, by omega, fun _ => by rw [this, hx, if_pos rfl]; exact h1, fun h => by omega, fun h => by omega, fun h => by omega⟩
 case cls =>
  rw [hO, a1g]
  refine ⟨I.cls, by simp, fun a ha b hb hc => ?_⟩
  obtain rfl := List.mem_singleton.1 hb
  have := (I.msg a ha).rma
  unfold a1b at hc
  omega
 case res =>
  intro j hj
  rw [hx]
  split
  ·refine ⟨hrm, fun h => ⟨by omega, (hr3 h).2, .inl ⟨by rw [hP, if_pos ⟨rfl, h⟩], by omega, fun h => by omega⟩⟩⟩
  ·have h2 := I.res j (by omega)
   have h3 := hrg j (by omega)
   have h4 : ∀ x, x ∈ W.s.O ↔ x ∈ w.s.O ∨ x = m := fun x => by rw [hO]; simp
   unfold a1T at *
   grind
 case dst =>
  intro j hj k hk hne he
  have h3 := hrg j
  have h4 := hrg k
  have h5 := I.dst j
  rw [hx, hx] at he
  rw [hx]
  have := fun h => (I.res j h).1
  have := fun h => (I.res k h).1
  grind
 case own =>
  intro n hn' h
  rw [hP] at h
  split at h
  ·exact ⟨w.s.R.length, by omega, by rw [hx, if_pos rfl]; omega⟩
  ·obtain ⟨j, hj, h2⟩ := I.own n (by omega) h
   exact ⟨j, by omega, by rw [hx, if_neg (by omega)]; exact h2⟩
 case flg => exact hfl
 case thr =>
  intro j hj k hk
  rw [hx] at hk ⊢
  split at hk
  ·rename_i e
   rw [if_pos e, h1]
   have hu := hp0 _ (l_v hk)
   rw [l6 hk, hP, if_neg (fun h => by have := (hr3 h.2).1; rw [← h.1] at this; omega), hu]
   exact ⟨fun _ => rfl, fun h => by omega, fun h => by omega⟩
  ·rename_i e
   rw [if_neg e]
   have h := I.thr j (by omega) k hk
   have h2 := fun h => (hr3 h).1
   generalize (w.R j).us.getD k 0 = u at *
   unfold there at *
   grind
 case dsj =>
  intro j hj k hk
  have := I.dsj j
  have := hds j
  have := hds k
  rw [hx, hx]
  grind
 case mon =>
  intro j hj
  have h1 := I.mon j
  rw [hd, hx]
  grind [fin]
 case cl =>
  intro j hj
  rw [hw, hx]
  have := I.cl j
  grind
 case op =>
  intro j hj
  rw [hw, hx]
  have := I.op j
  grind
 case tim =>
  intro x hx'
  rcases hT x hx' with h | h
  ·have := I.tim x h
   have : (x.num - 1).toNat ≠ w.s.R.length := by omega
   grind
  ·have : (x.num - 1).toNat = w.s.R.length := by omega
   rw [this, hx, if_pos rfl]
   omega
 case led =>
  have h2 := hr.nil (by omega) (by omega)
  have h3 := hr.pos
  obtain ⟨a1, a2, a3, a4, a5⟩ := I.led
  unfold tol at h2
  constructor <;> rw [hR, hL] <;> simp [a1r, a0C, a0G, fin, h1] <;> unfold a1r at * <;> omega
end
end
section
def J7 (l : Led) (a b s : Int) : Led := (l.put a (l.get a - s)).put b (l.get b + s)
def G4 (w : Wk) (i : Nat) (s : Int) : Wk := (w.put i { w.R i with credd := (w.R i).credd + s }).led (J7 w.s.led 1 3 s)
def N2 (w : Wk) (i : Nat) (s : Int) : Wk := if s = 0 then w else if (w.R i).cred = true then G4 w i s else H8 w 2 (w.R i).num s
def a1S (ss : List Sup) (w : Wk) (i : Nat) : Wk :=
 x9 (if 0 ≤ (w.R i).res then (if (w.R i).worth < prc ss (w.R i) then N2 (j2 w i) i (w.R i).worth else N2 (H8 w 3 (w.R i).num (w.R i).res) i ((w.R i).worth - prc ss (w.R i))) else N2 w i (w.R i).worth) i
def L8 (ss : List Sup) (w : Wk) (i : Nat) : Wk := a1S ss ((w.put i { w.R i with state := 5 }).led (J7 w.s.led 0 1 (w.R i).worth)) i
section
variable {D : Cfg} {U : List Unt} {w W : Wk} {e i j m : Nat} {q s : Int} {r : Ret} {K : List KU} {O : List Msg}
theorem a4P (hD : Stc D U) (r : Ret) : 0 ≤ prc D.ss r ∧ prc D.ss r ≤ 1073741824 := by
 have : ∀ ss : List Sup, (∀ x ∈ ss, a5B x) → 0 ≤ (s9 ss r.want).getD 0 ∧ (s9 ss r.want).getD 0 ≤ 1073741824 := by
  intro ss
  induction ss with
  | nil => intro _; exact ⟨Int.le_refl 0, by show (0 : Int) ≤ 1073741824; decide⟩
  | cons x ss ih =>
   intro h
   unfold s9
   split
   ·exact (h x (by simp)).2.1
   ·exact ih fun y hy => h y (by simp [hy])
 exact this _ hD.cfg.2.2.2.2.1.1
theorem H6 (hD : Stc D U) (hI : c1P D U i r) (hl : r.us.length ≤ 200 ∧ r.gs.length = r.us.length) : 0 ≤ r.worth ∧ r.worth ≤ 858993459200 := by
 have h := a7S (r := r) hD.cfg.1 hD.sh r.us.length
 rw [b1M hl.2, ← hI.worth] at h
 omega
theorem c1K (hD : Stc D U) (I : Inv D U w e q) (r : Ret) (n : Int) : 0 ≤ M9 (prc D.ss r) n w.s.O := b2K (a4P hD r).1 fun m hm hk => by have := ((I.msg m hm).k2 hk).2; omega
theorem a3p (hD : Stc D U) (I : Inv D U w e q) (hq : 0 ≤ q) (hi : i < w.s.R.length) (hf : fin (w.R i)) : 0 ≤ (w.R i).paid ∧ 0 ≤ (w.R i).credd ∧ 0 ≤ (w.R i).given ∧ (w.R i).paid + (w.R i).credd + (w.R i).given + (if i = e then q else 0) ≤ (w.R i).worth := by
 have h1 := (I.ret i hi).pos
 have h2 := I.mon i hi hf
 have h3 := c1K hD I (w.R i) (i + 1)
 unfold tol at h2
 omega
theorem b3L {f : Ret → Int} {a b : Int} : ∀ {R : List Ret}, (∀ r ∈ R, a ≤ f r ∧ f r ≤ b) → a * R.length ≤ a1r f R ∧ a1r f R ≤ b * R.length
 | [], _ => by simp [a1r]
 | x :: R, h => by
  have h1 := b3L (R := R) fun r hr => h r (by simp [hr])
  have h2 := h x (by simp)
  simp only [a1r, H2, K7, l_f] at h1 ⊢
  rw [Int.natCast_add, Int.mul_add, Int.mul_add]
  simp only [Int.natCast_one, Int.mul_one]
  omega
theorem a9y (hD : Stc D U) (I : Inv D U w e q) (hq : 0 ≤ q) (Wf : w.wf U m) (n : Int) : -85899345920000 ≤ w.s.led.get n ∧ w.s.led.get n ≤ 85899345920000 := by
 have hb : ∀ f : Ret → Int, (∀ i < w.s.R.length, 0 ≤ f (w.R i) ∧ f (w.R i) ≤ 858993459200) → 0 ≤ a1r f w.s.R ∧ a1r f w.s.R ≤ 85899345920000 := fun f h => by
  have := b3L (f := f) (a := 0) (b := 858993459200) (R := w.s.R) fun r hr => by
   obtain ⟨k, hk, rfl⟩ := V0 hr
   have := h k hk
   unfold Wk.R at this
   rwa [l_s, l_r hk] at this
  have := Wf.rl
  omega
 have hw : ∀ i < w.s.R.length, 0 ≤ (w.R i).worth ∧ (w.R i).worth ≤ 858993459200 := fun i hi => H6 hD (I.ret i hi) (Wf.len _ (C2 hi))
 have ht : ∀ i < w.s.R.length, 0 ≤ (w.R i).paid ∧ 0 ≤ (w.R i).credd ∧ 0 ≤ (w.R i).given ∧ (w.R i).paid + (w.R i).credd + (w.R i).given ≤ (w.R i).worth := fun i hi => by
  by_cases hf : fin (w.R i)
  ·have := a3p hD I hq hi hf
   split at this <;> omega
  ·have h1 := (I.ret i hi).pos
   have h2 := (I.ret i hi).nil (fun h => hf (.inl h)) (fun h => hf (.inr h))
   have := hw i hi
   unfold tol at h2
   omega
 obtain ⟨a1, a2, a3, a4, a5⟩ := I.led
 have b1 := hb a0C fun i hi => by have := hw i hi; unfold a0C; split <;> omega
 have b2 := hb a0G fun i hi => by have := hw i hi; have := ht i hi; unfold a0G tol; split <;> omega
 have b3 := hb Ret.paid fun i hi => by have := hw i hi; have := ht i hi; omega
 have b4 := hb Ret.credd fun i hi => by have := hw i hi; have := ht i hi; omega
 have b5 := hb Ret.given fun i hi => by have := hw i hi; have := ht i hi; omega
 unfold Led.get
 repeat' split
 all_goals omega
theorem a6O (hD : Stc D U) (I : Inv D U w e q) (hq : 0 ≤ q) (Wf : w.wf U m) (hs : 0 ≤ s ∧ s ≤ 858993459200) (a b : Int) : a1a w.s.led a b s = .ok (J7 w.s.led a b s) := by
 have := a9y hD I hq Wf a
 have := a9y hD I hq Wf b
 unfold a1a
 rw [if_neg (by omega), if_pos (by unfold okC; omega)]
 rfl
theorem a3F {n : Int} (h : -9223372036854775808 ≤ n ∧ n ≤ 9223372036854775807) : w64 n = n := u2 (by omega) (by omega)
theorem b4h (hD : Stc D U) (I : Inv D U w i q) (hq : 0 ≤ q) (Wf : w.wf U m) (hi : i < w.s.R.length) (h5 : (w.R i).state = 5) :
  Q9 w i q = .ok (N2 w i q) ∧ Inv D U (N2 w i q) i 0 ∧ (N2 w i q).wf U (m + 1) ∧ (N2 w i q).s.R.length = w.s.R.length ∧ (N2 w i q).s.K = w.s.K ∧ ((N2 w i q).R i).state = 5 ∧ ((N2 w i q).R i).res = (w.R i).res ∧ ∀ x ∈ w.s.O, x ∈ (N2 w i q).s.O := by
 have hb := a3p hD I hq hi (.inl h5)
 rw [if_pos rfl] at hb
 have hwl := H6 hD (I.ret i hi) (Wf.len _ (C2 hi))
 have hp : Q9 w i q = .ok (N2 w i q) := by
  unfold Q9 N2
  split
  ·rfl
  ·split
   ·unfold V6 G4 P4
    rw [a3F (by omega)]
    show (a1a w.s.led 1 3 q).map _ = _
    rw [a6O hD I hq Wf (by omega)]
    rfl
   ·rfl
 obtain ⟨g1, g2⟩ := a4T hi hp Wf
 refine ⟨hp, ?_, g1, g2, ?_⟩
 ·unfold N2
  split
  ·rename_i h; rw [h] at I; exact I
  ·split
   ·have := a5d (W := G4 w i q) (p := 0) (c := q) (g := 0) I hi h5 (by omega) (by simp [G4, Wk.led, Wk.put]) rfl rfl rfl (by simp [G4, Wk.led, J7, Led.put, Led.get])
    simpa using this
   ·have := b4G (W := H8 w 2 (w.R i).num q) (m := ⟨w.s.key, 2, (w.R i).num, q, 1, w.s.now + 1⟩) (s := q) I hi h5 (I.ret i hi).num (.inl ⟨rfl, by show 0 < q; omega, rfl⟩) rfl rfl rfl rfl rfl
    simpa using this
 ·unfold N2
  split
  ·exact ⟨rfl, h5, rfl, fun x h => h⟩
  ·split
   ·unfold G4
    refine ⟨rfl, ?_, ?_, fun x h => h⟩
    ·show ((w.put i _).R i).state = 5
     rw [D4 hi]; exact h5
    ·show ((w.put i _).R i).res = _
     rw [D4 hi]
   ·exact ⟨rfl, h5, rfl, fun x h => X6 _ h⟩
end
end
end Go.Proofs.YtjagmebglhbdkaaGreat.MX
