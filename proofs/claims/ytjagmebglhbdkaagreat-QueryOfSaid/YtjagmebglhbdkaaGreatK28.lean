import Derived.Test.YtjagmebglhbdkaaGreatK27
namespace Go.Proofs.YtjagmebglhbdkaaGreat.MX
open Go Go.Proofs
set_option linter.unusedSimpArgs false
set_option linter.unusedVariables false
section
def M8 (w : Wk) (i : Nat) (st : Int) : Wk :=
 let w2 := j2 (w.put i { w.R i with state := st }) i
 { w2 with s := { w2.s with T := without w2.s.T (i + 1), O := dropL w2.s.O (i + 1) } }
def a2o (U : List Unt) (r : Ret) : Ret := { r with gs := r.us.map fun _ => 4, worth := r.worth + (r.us.map fun u => (j8 U u).share).sum }
def a3h (ss : List Sup) (U : List Unt) (w : Wk) (i : Nat) : Wk := L8 ss (s7 (w.put i (a2o U (w.R i))) (w.R i).us 6) i
def O9 (ss : List Sup) (U : List Unt) (w : Wk) (num : Int) : Wk :=
 let i := (num - 1).toNat
 if (w.R i).state = 3 then a3h ss U w i else if (w.R i).state = 1 ∨ (w.R i).state = 2 then M8 w i 8 else w
section
variable {D : Cfg} {U : List Unt} {w W : Wk} {e i j m : Nat} {q s : Int} {r : Ret} {K : List KU} {O : List Msg}
theorem b1Q (hD : Stc D U) (I : Inv D U w i (w.R i).worth) (Wf : w.wf U m) (hi : i < w.s.R.length) (h5 : (w.R i).state = 5) (h7 : 0 ≤ (w.R i).res → i9 w.s.K (w.R i).res = 7) (hno : ∀ x ∈ w.s.O, x.kind = 3 → x.rma ≠ i + 1) :
  ((if 0 ≤ (w.R i).res then (if (w.R i).worth < prc D.ss (w.R i) then Q9 (j2 w i) i (w.R i).worth else Q9 (H8 w 3 (w.R i).num (w.R i).res) i (w64 ((w.R i).worth - prc D.ss (w.R i)))) else Q9 w i (w.R i).worth).map fun w2 => x9 w2 i) = .ok (a1S D.ss w i) ∧ Inv D U (a1S D.ss w i) 1000 0 ∧ (a1S D.ss w i).wf U (m + 2) ∧ (a1S D.ss w i).s.R.length = w.s.R.length := by
 have hwl := H6 hD (I.ret i hi) (Wf.len _ (C2 hi))
 have hpr := a4P hD (w.R i)
 have hrl := Wf.rl
 have hI := I.ret i hi
 have key : ∀ (v : Wk) (x : Int), Inv D U v i x → 0 ≤ x → v.wf U (m + 1) → v.s.R.length = w.s.R.length → (v.R i).state = 5 → (0 ≤ (v.R i).res → i9 v.s.K (v.R i).res = 7 → ∃ y ∈ v.s.O, y.kind = 3 ∧ y.rma = i + 1) →
   (Q9 v i x).map (fun w2 => x9 w2 i) = .ok (x9 (N2 v i x) i) ∧ Inv D U (x9 (N2 v i x) i) 1000 0 ∧ (x9 (N2 v i x) i).wf U (m + 2) ∧ (x9 (N2 v i x) i).s.R.length = w.s.R.length := by
  intro v x Iv hx Wv hl h5v h3
  obtain ⟨p1, p2, p3, p4, p5, p6, p7, p8⟩ := b4h hD Iv hx Wv (by omega) h5v
  obtain ⟨c1, c2⟩ := a7c (i := i) (by omega) p3
  refine ⟨by rw [p1]; rfl, Z5 p2 (by omega) (.inr p6) (by omega) (fun a _ b => ?_), c1, by omega⟩
  rw [p7] at a b
  rw [p5] at b
  obtain ⟨y, y1, y2⟩ := h3 a b
  exact ⟨y, p8 y y1, y2⟩
 unfold a1S
 split
 ·rename_i hr
  split
  ·rename_i hlt
   have hR0 : j2 w i = (w.mv (w.R i).res 3).put i { w.R i with res := -1 } := by rw [j2, if_pos hr]
   have hRi : (j2 w i).R i = { w.R i with res := -1 } := by rw [hR0]; exact D4 hi
   have hIr : Inv D U (j2 w i) i (w.R i).worth := a5v I hi h5 hr (h7 hr) hno (by rw [hR0]; rfl) (by rw [hR0]; rfl) (by rw [hR0]; rfl) (by rw [hR0]; rfl) (by rw [hR0]; rfl)
   exact key _ _ hIr hwl.1 ((Wf.release hi).up (by omega)) (C4 _ _) (by rw [hRi]; exact h5) (fun h => by rw [hRi] at h; simp at h)
  ·rename_i hlt
   rw [a3F (by omega)]
   have hIs : Inv D U (H8 w 3 (w.R i).num (w.R i).res) i ((w.R i).worth - prc D.ss (w.R i)) := b4G (m := ⟨w.s.key, 3, (w.R i).num, (w.R i).res, 1, w.s.now + 1⟩) I hi h5 hI.num (.inr ⟨rfl, rfl, hr, h7 hr, hno, rfl⟩) rfl rfl rfl rfl rfl
   exact key _ _ hIs (by omega) (Wf.say _ _ _) rfl h5 (fun _ _ => ⟨⟨w.s.key, 3, (w.R i).num, (w.R i).res, 1, w.s.now + 1⟩, a2y _ (by simp), rfl, hI.num⟩)
 ·rename_i hr
  exact key _ _ I hwl.1 (Wf.up (by omega)) rfl h5 (fun h => absurd h hr)
theorem b9I (I : Inv D U w e q) (h5 : (w.R i).state ≠ 5) : ∀ x ∈ w.s.O, x.kind = 3 → x.rma ≠ i + 1 := fun x hx hk hr => by
 have := ((I.msg x hx).k3 hk).1
 rw [show (x.rma - 1).toNat = i by omega] at this
 exact h5 this
theorem b2V (hD : Stc D U) (I : Inv D U w 1000 0) (Wf : w.wf U m) (hi : i < w.s.R.length) (h4 : (w.R i).state = 4) (hg : ∀ g ∈ (w.R i).gs, 0 ≤ g) :
  G0 D.ss w i 4 = .ok (L8 D.ss w i) ∧ Inv D U (L8 D.ss w i) 1000 0 ∧ (L8 D.ss w i).wf U (m + 2) ∧ (L8 D.ss w i).s.R.length = w.s.R.length := by
 have hwl := H6 hD (I.ret i hi) (Wf.len _ (C2 hi))
 have hrl := Wf.rl
 obtain ⟨w1, hw1⟩ : ∃ w1, w1 = (w.put i { w.R i with state := 5 }).led (J7 w.s.led 0 1 (w.R i).worth) := ⟨_, rfl⟩
 have hR1 : w1.R i = { w.R i with state := 5 } := by rw [hw1]; exact D4 hi
 have I1 : Inv D U w1 i (w.R i).worth := b2L I (by omega) hi h4 hg (by rw [hw1]; rfl) (by rw [hw1]; rfl) (by rw [hw1]; rfl) (by rw [hw1]; rfl) (by rw [hw1]; simp [Wk.led, J7, Led.put, Led.get])
 have W1 : w1.wf U m := by rw [hw1]; exact (Wf.putR (r := { w.R i with state := 5 }) hi rfl rfl).led _
 have hl1 : w1.s.R.length = w.s.R.length := by rw [hw1]; exact n8
 have hw : (w1.R i).worth = (w.R i).worth := by rw [hR1]
 have hK1 : w1.s.K = w.s.K := by rw [hw1]; rfl
 have hr := b1Q (m := m) hD (w := w1) (i := i) (by rw [hw]; exact I1) W1 (by omega) (by rw [hR1]) (fun h => by
  rw [hR1] at h ⊢
  have := (I.res i hi).2 h
  rw [hK1]
  simp only
  omega) (by rw [show w1.s.O = w.s.O by rw [hw1]; rfl]; exact b9I I (by omega))
 obtain ⟨r1, r2, r3, r4⟩ := hr
 unfold L8
 rw [← hw1]
 refine ⟨?_, r2, r3, by omega⟩
 unfold G0
 rw [show D8 (w.R i).state 4 = some 5 by rw [h4]; rfl]
 simp only [P4]
 rw [show (w.put i { w.R i with state := 5 }).s.led = w.s.led from rfl, a6O hD I (by omega) Wf hwl]
 show Except.map _ _ = _
 rw [← hw1]
 exact r1
theorem a4Z (hD : Stc D U) {r : Ret} (hr : w.R i = r) (hi : i < w.s.R.length) (hl : r.gs.length = r.us.length) (h0 : 0 ≤ r.worth) : ∀ j, j ≤ r.us.length → r.worth + 4294967296 * j ≤ 9223372036854775807 → u6 U w i j = s7 (w.put i { r with gs := (r.us.take j).map (fun _ => 4) ++ r.gs.drop j, worth := r.worth + ((r.us.take j).map fun u => (j8 U u).share).sum }) (r.us.take j) 6
 | 0, _, _ => by
  have : w.put i r = w := by
   unfold Wk.put
   have : w.s.R.set i r = w.s.R := by
    subst hr
    unfold Wk.R
    rw [l_s, l_r hi]
    exact List.set_getElem_self hi
   rw [this]
  simp only [u6, a1U, List.map_nil, l_k, a4D, List.sum_nil, Int.add_zero]
  rw [this]
  rfl
 | j + 1, hj, hb => by
  have ih := a4Z hD hr hi hl h0 j (by omega) (by omega)
  have hlt : j < r.us.length := by omega
  have hsh : 0 ≤ ((r.us.take j).map fun u => (j8 U u).share).sum ∧ ((r.us.take j).map fun u => (j8 U u).share).sum ≤ 4294967296 * j := by
   have : ∀ l : List Int, 0 ≤ (l.map fun u => (j8 U u).share).sum ∧ (l.map fun u => (j8 U u).share).sum ≤ 4294967296 * l.length := by
    intro l
    induction l with
    | nil => simp
    | cons x l ih => have := K0 hD.sh x; simp only [H2, K7, l_f]; omega
   have := this (r.us.take j)
   rw [v5] at this
   omega
  have hu := K0 hD.sh r.us[j]
  rw [u6, ih]
  simp only
  rw [J6]
  have hRi : ∀ x K, Wk.R { (w.put i x) with s := { (w.put i x).s with K := K } } i = x := fun x K => D4 hi
  rw [hRi]
  simp only
  rw [l6 hlt, a3F (by omega)]
  have hset : ((r.us.take j).map (fun _ => (4 : Int)) ++ r.gs.drop j).set j 4 = (r.us.take (j + 1)).map (fun _ => 4) ++ r.gs.drop (j + 1) := by
   rw [a5P _ _ (by simp; omega), l_z, v5, Nat.min_eq_left (by omega), Nat.sub_self, X3 (by omega), l_h, l_t hlt, M7, l_q]
   rfl
  rw [hset, J6, l_t hlt, M7, M7, a1Z]
  have hmv : a5g w.s.K (r.us.take j ++ [r.us[j]]) 6 = D9 (a5g w.s.K (r.us.take j) 6) r.us[j] 6 := by unfold a5g; rw [List.foldl_append]; rfl
  simp only [Wk.put, Wk.mv, List.set_set, hmv, H2, List.map_nil, K7, List.sum_nil, Int.add_zero, Int.add_assoc]
theorem c2J (r : Ret) : P8 D.ps U { r with gs := r.us.map fun _ => 4 } = (r.us.map fun u => (j8 U u).share).sum := by
 unfold P8
 have : r.us.zip (r.us.map fun _ => (4 : Int)) = r.us.map fun u => (u, 4) := by
  induction r.us with
  | nil => rfl
  | cons x l ih => simp [ih]
 simp only [this, List.map_map]
 congr 1
theorem b9g {r : Ret} (hl : r.gs.length = r.us.length) (h : ∀ g ∈ r.gs, g = -1) : P8 D.ps U r = 0 := by
 unfold P8
 have : ∀ l : List (Int × Int), (∀ x ∈ l, x.2 = -1) → (l.map fun x => a0U D.ps U r.rea x.1 x.2).sum = 0 := by
  intro l
  induction l with
  | nil => intro _; rfl
  | cons x l ih =>
   intro h
   rw [H2, K7, ih fun y hy => h y (by simp [hy]), a0U, h x (by simp)]
   rfl
 exact this _ fun x hx => h _ (List.of_mem_zip hx).2
theorem c0b (hD : Stc D U) (I : Inv D U w 1000 0) (Wf : w.wf U m) (hi : i < w.s.R.length) (h3 : (w.R i).state = 3) (hT : ∀ x ∈ w.s.T, x.num ≠ i + 1) :
  a6p D.ss U w i = .ok (a3h D.ss U w i) ∧ Inv D U (a3h D.ss U w i) 1000 0 ∧ (a3h D.ss U w i).wf U (m + 2) ∧ (a3h D.ss U w i).s.R.length = w.s.R.length := by
 have hI := I.ret i hi
 have hgl := Wf.len _ (C2 hi)
 have hwl := H6 hD hI hgl
 have hrl := Wf.rl
 have hw0 : (w.R i).worth = 0 := by rw [hI.worth]; exact b9g hgl.2 (hI.g0 (by omega) (by omega) (by omega))
 have hls : u6 U w i (w.R i).us.length = s7 (w.put i (a2o U (w.R i))) (w.R i).us 6 := by
  rw [a4Z hD rfl hi hgl.2 hwl.1 _ (x6 _) (by omega), C8, List.drop_of_length_le (by omega), D6]
  rfl
 obtain ⟨v, hv⟩ : ∃ v, v = s7 (w.put i (a2o U (w.R i))) (w.R i).us 6 := ⟨_, rfl⟩
 have hv2 := hv
 rw [J6] at hv2
 have hRv : v.R i = a2o U (w.R i) := by rw [hv2]; exact D4 hi
 obtain ⟨l1, l2, l3⟩ := a3X (U := U) (w := w) hi Wf (w.R i).us.length
 rw [hls, ← hv] at l1 l2 l3
 obtain ⟨n, hn⟩ : ∃ n, n = (a2o U (w.R i)).worth := ⟨_, rfl⟩
 have hnw : n = P8 D.ps U { w.R i with gs := (w.R i).us.map fun _ => 4 } := by rw [hn, c2J]; unfold a2o; simp [hw0]
 obtain ⟨w1, hw1⟩ : ∃ w1, w1 = (v.put i { v.R i with state := 5 }).led (J7 v.s.led 0 1 (v.R i).worth) := ⟨_, rfl⟩
 have hR1 : w1.R i = { a2o U (w.R i) with state := 5 } := by rw [hw1]; show (v.put i _).R i = _; rw [D4 (by omega), hRv]
 have I1 : Inv D U w1 i n := by
  refine b6P (gs := (w.R i).us.map fun _ => 4) I (by omega) hi h3 (by rw [l_z, hgl.2]) hgl.2 (fun g hg => ?_) hnw ?_ ?_ ?_ ?_ ?_
  ·obtain ⟨_, _, rfl⟩ := List.mem_map.1 hg; rfl
  ·rw [hw1]; show v.s.R.set i { v.R i with state := 5 } = _
   rw [hRv, hv2]
   show (w.s.R.set i (a2o U (w.R i))).set i _ = _
   rw [List.set_set, hn]
   rfl
  ·rw [hw1, hv2]; rfl
  ·rw [hw1, hv2]; rfl
  ·intro x hx
   have : x ∈ w.s.T := by rw [hw1, hv2] at hx; exact hx
   exact ⟨this, hT x this⟩
  ·rw [hw1, hRv]
   show J7 v.s.led 0 1 _ = _
   rw [hv2, hn]
   simp [J7, Led.put, Led.get, Wk.put]
 have hw : (w1.R i).worth = n := by rw [hR1, hn]
 have W1 : w1.wf U m := by rw [hw1]; exact (l1.putR (r := { v.R i with state := 5 }) (by omega) rfl rfl).led _
 have hl1 : w1.s.R.length = w.s.R.length := by rw [hw1, ← l2]; exact n8
 have hr := b1Q (m := m) hD (w := w1) (i := i) (by rw [hw]; exact I1) W1 (by omega) (by rw [hR1]) (fun h => by
  rw [hR1] at h ⊢
  have h0 : 0 ≤ (w.R i).res := h
  have h2 := (I1.res i (by omega)).2
  rw [hR1] at h2
  have := h2 h0
  simp only [a2o] at this ⊢
  have h7 := (I.res i hi).2 h0
  have hK1 : w1.s.K = a5g w.s.K (w.R i).us 6 := by rw [hw1, hv2]; rfl
  rw [hK1, a0u h0 (by decide)]
  have : i9 w.s.K (w.R i).res = 7 := by omega
  rw [if_neg (by rw [this]; exact fun h => absurd h.1 (by decide)), this]) (by
   rw [show w1.s.O = w.s.O by rw [hw1, hv2]; rfl]
   exact b9I I (by omega))
 obtain ⟨r1, r2, r3, r4⟩ := hr
 have hled : P4 (v.put i { v.R i with state := 5 }) 0 1 (v.R i).worth = .ok w1 := by
  have hnb : 0 ≤ (v.R i).worth ∧ (v.R i).worth ≤ 858993459200 := by
   rw [hRv, ← hn, ← hw]
   exact H6 hD (I1.ret i (by omega)) (W1.len _ (C2 (by omega)))
  show (a1a v.s.led 0 1 _).map _ = _
  rw [show v.s.led = w.s.led by rw [hv2]; rfl, a6O hD I (by omega) Wf hnb, hw1, show v.s.led = w.s.led by rw [hv2]; rfl]
  rfl
 unfold a3h L8 a6p G0
 rw [hls, ← hv, ← hw1]
 refine ⟨?_, r2, r3, by omega⟩
 rw [show D8 (v.R i).state 5 = some 5 by rw [hRv]; show D8 (w.R i).state 5 = _; rw [h3]; rfl]
 simp only
 rw [hled]
 exact r1
theorem a4d {st : Int} (I : Inv D U w 1000 0) (Wf : w.wf U m) (hi : i < w.s.R.length) (h12 : (w.R i).state = 1 ∨ (w.R i).state = 2) (hst : 7 ≤ st ∧ st ≤ 9) :
  L6 w (i + 1) st = .ok (M8 w i st) ∧ Inv D U (M8 w i st) 1000 0 ∧ (M8 w i st).wf U m ∧ (M8 w i st).s.R.length = w.s.R.length ∧ (∀ j, (M8 w i st).R j = if j = i then { w.R i with state := st, res := -1 } else w.R j) := by
 have hrl := Wf.rl
 have hat : w.s.at_ (i + 1) = some (w.R i) := by
  unfold Sag.at_ Wk.R
  rw [if_pos (by omega), show ((i : Int) + 1 - 1).toNat = i by omega, l_s, l_r hi]
  rfl
 have hp : L6 w (i + 1) st = .ok (M8 w i st) := by
  unfold L6 M8
  rw [hat]
  simp only
  rw [show D8 (w.R i).state st = some st by unfold D8; grind]
  simp only [show ((i : Int) + 1 - 1).toNat = i by omega]
 obtain ⟨g1, g2⟩ := a3A hp Wf
 have hrm := (I.res i hi).1
 have hput : (w.put i { w.R i with state := st }).R i = { w.R i with state := st } := D4 hi
 have hrel : j2 (w.put i { w.R i with state := st }) i = { w with s := { w.s with K := (if 0 ≤ (w.R i).res then D9 w.s.K (w.R i).res 3 else w.s.K), R := w.s.R.set i { w.R i with state := st, res := -1 } } } := by
  unfold j2
  rw [hput]
  simp only
  split
  ·simp only [Wk.put, Wk.mv, List.set_set]
  ·rename_i h
   have : (w.R i).res = -1 := by omega
   simp only [Wk.put]
   congr 3
   have : ({ w.R i with state := st } : Ret) = { w.R i with state := st, res := -1 } := by rw [← this]
   rw [this]
 refine ⟨hp, ?_, g1, g2, ?_⟩
 ·refine c0v (st := st) I (by omega) hi h12 hst ?_ ?_ ?_ ?_ ?_ <;> unfold M8 <;> rw [hrel]
  intro x hx
  have := N5 hx
  exact ⟨this.1, this.2⟩
 ·intro j
  have : (M8 w i st).s.R = w.s.R.set i { w.R i with state := st, res := -1 } := by unfold M8; rw [hrel]
  exact (a0y this hi).1 j
theorem b4o {num : Int} (hD : Stc D U) (I : Inv D U w 1000 0) (Wf : w.wf U m) (hn : 1 ≤ num ∧ num ≤ w.s.R.length) (hT : ∀ x ∈ w.s.T, x.num ≠ num) :
  a1t D.ss U w num = .ok (O9 D.ss U w num) ∧ Inv D U (O9 D.ss U w num) 1000 0 ∧ (O9 D.ss U w num).wf U (m + 2) ∧ (O9 D.ss U w num).s.R.length = w.s.R.length := by
 obtain ⟨i, hi⟩ : ∃ i : Nat, num = i + 1 := ⟨(num - 1).toNat, by omega⟩
 have hil : i < w.s.R.length := by omega
 have hat : w.s.at_ num = some (w.R i) := by
  unfold Sag.at_ Wk.R
  rw [if_pos (by omega), show (num - 1).toNat = i by omega, l_s, l_r hil]
  rfl
 unfold a1t O9
 rw [hat, show (num - 1).toNat = i by omega]
 simp only
 split
 ·exact c0b hD I Wf hil (by assumption) (by rw [← hi]; exact hT)
 ·split
  ·obtain ⟨a, b, c, d, _⟩ := a4d (st := 8) I Wf hil (by assumption) (by decide)
   rw [hi]
   exact ⟨a, b, c.up (by omega), d⟩
  ·exact ⟨rfl, I, Wf.up (by omega), rfl⟩
end
end
section
def a6J (w : Wk) (i : Nat) : Wk := let w2 := s7 (w.put i { w.R i with state := 3 }) (w.R i).us 1; a2d w2 (i + 1) (w.s.now + 30)
def a0k (w : Wk) (i : Nat) : Wk := Q5 (s7 (w.put i { w.R i with state := 4 }) (w.R i).us 2) (i + 1)
noncomputable def a3G (ps : List Pol) (ss : List Sup) (U : List Unt) (w : Wk) (c : Cmd) (i j : Nat) : Wk :=
 let r := w.R i
 let x := j8 U c.unit
 let p := C6 ps x.cat
 let w1 := w.put i { r with gs := r.gs.set j c.grade, worth := r.worth + wrt p x.share r.rea c.grade }
 let w2 := if p.gto c.grade ≠ 0 then w1.mv c.unit (p.gto c.grade) else H8 (w1.mv c.unit 8) 4 r.num c.unit
 if (w2.R i).gs.contains (-1) = true then w2 else L8 ss w2 i
def a3Y (w : Wk) (i : Nat) (s : Int) : Wk := (w.put i { w.R i with paid := (w.R i).paid + s }).led (J7 w.s.led 1 2 s)
def a0j (ss : List Sup) (w : Wk) (i : Nat) : Wk := ((w.put i { w.R i with given := (w.R i).given + prc ss (w.R i) }).mv (w.R i).res 8).led (J7 w.s.led 1 4 (prc ss (w.R i)))
def T0 (ss : List Sup) (w : Wk) (m : Msg) (yes : Bool) : Wk :=
 let i := (m.rma - 1).toNat
 if m.kind = 1 then (if yes = true then w.put i { w.R i with state := 2 } else M8 w i 8)
 else x9 (if m.kind = 2 then (if yes = true then a3Y w i m.value else G4 w i m.value) else if m.kind = 3 then (if yes = true then a0j ss w i else N2 (j2 w i) i (prc ss (w.R i))) else w.mv m.value (I6 yes)) i
section
variable {D : Cfg} {U : List Unt} {w W : Wk} {e i j m : Nat} {q s : Int} {r : Ret} {K : List KU} {O : List Msg}
theorem b9T {us gs : List Int} (h : V5 us gs) {a : Nat} : ∀ {b : Nat}, b < us.length → a < b → us.getD a 0 < us.getD b 0
 | 0, _, h => absurd h (by omega)
 | b + 1, hb, hab => by
  have h1 := (h.2.2 (b + 1) hb).2.1 (by omega)
  rw [a4F] at h1
  by_cases e : a = b
  ·rw [e]; exact h1
  ·have := b9T h (a := a) (b := b) (by omega) (by omega)
   omega
theorem b9b {us gs : List Int} (h : V5 us gs) : ∀ a < us.length, ∀ b < us.length, us.getD a 0 = us.getD b 0 → a = b := fun a ha b hb e => by
 rcases Nat.lt_trichotomy a b with h1 | h1 | h1
 ·have := b9T h hb h1; omega
 ·exact h1
 ·have := b9T h ha h1; omega
theorem b3Q (f : Int → Int → Int) : ∀ {us gs : List Int} {j : Nat} {g : Int}, j < us.length → gs.length = us.length → ((us.zip (gs.set j g)).map fun x => f x.1 x.2).sum = ((us.zip gs).map fun x => f x.1 x.2).sum - f (us.getD j 0) (gs.getD j 0) + f (us.getD j 0) g
 | [], _, _, _, h, _ => absurd h (by simp)
 | u :: us, [], _, _, _, h => by simp at h
 | u :: us, x :: gs, 0, g, _, _ => by simp; omega
 | u :: us, x :: gs, j + 1, g, h1, h2 => by
  have := b3Q f (us := us) (gs := gs) (j := j) (g := g) (by simpa using h1) (by simpa using h2)
  simp only [l_i, List.zip_cons_cons, H2, K7, List.getD_cons_succ, this]
  omega
theorem b7G {p : Pol} (hp : p.right) (g : Int) : p.gto g = 0 ∨ p.gto g = 3 ∨ p.gto g = 4 ∨ p.gto g = 5 := by
 obtain ⟨_, ⟨h0, h1, h2, h3⟩, _⟩ := hp
 unfold Y4 at h0 h1 h2 h3
 unfold Pol.gto
 repeat' split
 all_goals omega
theorem a8T (hD : Stc D U) {c : Cmd} (I : Inv D U w 1000 0) (Wf : w.wf U m) (hi : i < w.s.R.length) (h4 : (w.R i).state = 4) (hE : N6 (w.R i) c.unit c.grade = .ok j) (hg4 : c.grade ≠ 4) :
  a0M D.ps D.ss U w c i j = .ok (a3G D.ps D.ss U w c i j) ∧ Inv D U (a3G D.ps D.ss U w c i j) 1000 0 := by
 obtain ⟨_, hgr, hj, hu, hgj⟩ := a5e hE
 have hg : 0 ≤ c.grade ∧ c.grade ≤ 3 := by unfold btw at hgr; omega
 have hI := I.ret i hi
 have hok := Wf.rr _ (C2 hi)
 have hgl := Wf.len _ (C2 hi)
 have hwl := H6 hD hI hgl
 have hrl := Wf.rl
 have hwr := a5a (r := (w.R i).rea) (g := c.grade) (N9 hD.cfg.1 (j8 U c.unit).cat) (K0 hD.sh c.unit).1
 have hsh := K0 hD.sh c.unit
 have hto := b7G (N9 hD.cfg.1 (j8 U c.unit).cat) c.grade
 have hn0 : (w.R i).worth + wrt (C6 D.ps (j8 U c.unit).cat) (j8 U c.unit).share (w.R i).rea c.grade = P8 D.ps U { w.R i with gs := (w.R i).gs.set j c.grade } := by
  have := b3Q (fun u g => a0U D.ps U (w.R i).rea u g) (g := c.grade) hj hgl.2
  have h1 := hI.worth
  unfold P8 at h1 ⊢
  simp only at this ⊢
  rw [this, ← h1, hgj, hu]
  have e1 : a0U D.ps U (w.R i).rea c.unit (-1) = 0 := rfl
  have e2 : a0U D.ps U (w.R i).rea c.unit c.grade = wrt (C6 D.ps (j8 U c.unit).cat) (j8 U c.unit).share (w.R i).rea c.grade := by unfold a0U; rw [if_neg hg4, if_pos hg.1]
  rw [e1, e2]
  omega
 unfold a0M a3G
 simp only
 rw [a3F (by omega)]
 generalize hN : (w.R i).worth + wrt (C6 D.ps (j8 U c.unit).cat) (j8 U c.unit).share (w.R i).rea c.grade = N at *
 obtain ⟨w2, hw2⟩ : ∃ w2, w2 = (if (C6 D.ps (j8 U c.unit).cat).gto c.grade ≠ 0 then (w.put i { w.R i with gs := (w.R i).gs.set j c.grade, worth := N }).mv c.unit ((C6 D.ps (j8 U c.unit).cat).gto c.grade) else H8 ((w.put i { w.R i with gs := (w.R i).gs.set j c.grade, worth := N }).mv c.unit 8) 4 (w.R i).num c.unit) := ⟨_, rfl⟩
 have hR2 : w2.s.R = w.s.R.set i { w.R i with gs := (w.R i).gs.set j c.grade, worth := N } := by rw [hw2]; split <;> rfl
 have I2 : Inv D U w2 1000 0 := by
  have hinj := b9b hok.1
  by_cases ht : (C6 D.ps (j8 U c.unit).cat).gto c.grade ≠ 0
  ·rw [if_pos ht] at hw2
   exact a8Z (to := (C6 D.ps (j8 U c.unit).cat).gto c.grade) (M := []) I (by omega) hi h4 hj hgl.2 hgj hg (by omega) hinj hn0 (.inl rfl) hR2 (by rw [hw2, hu]; rfl) (by rw [hw2]; simp [Wk.mv, Wk.put]) (by rw [hw2]; rfl) (by rw [hw2]; rfl)
  ·rw [if_neg ht] at hw2
   exact a8Z (to := 8) (M := [⟨w.s.key, 4, (w.R i).num, c.unit, 1, w.s.now + 1⟩]) I (by omega) hi h4 hj hgl.2 hgj hg (by omega) hinj hn0 (.inr ⟨_, rfl, rfl, rfl, hI.num, hu.symm⟩) hR2 (by rw [hw2, hu]; rfl) (by rw [hw2]; rfl) (by rw [hw2]; rfl) (by rw [hw2]; rfl)
 have W2 : w2.wf U (m + 1) := by
  have W1 : (w.put i { w.R i with gs := (w.R i).gs.set j c.grade, worth := N }).wf U m := Wf.put ⟨X4 hok.1 (by unfold btw; omega), hok.2⟩
  rw [hw2]
  split
  ·exact (W1.mv _ _).up (by omega)
  ·exact (W1.mv _ _).say _ _ _
 rw [← hw2]
 have hRi : w2.R i = { w.R i with gs := (w.R i).gs.set j c.grade, worth := N } := by rw [(a0y hR2 hi).1, if_pos rfl]
 split
 ·exact ⟨rfl, I2⟩
 ·rename_i hc
  obtain ⟨a, b, _⟩ := b2V hD I2 W2 (i := i) (by rw [hR2]; simpa using hi) (by rw [hRi]; exact h4) (fun g hg2 => by
   have h1 : -1 ≤ g := by
    have hk := W2.rr _ (C2 (i := i) (by rw [hR2]; simpa using hi))
    obtain ⟨k, hk2, rfl⟩ := V0 hg2
    have := (hk.1.2.2 k (by rw [← hk.1.2.1]; exact hk2)).2.2
    rw [l6 hk2] at this
    exact this.1
   have h2 : g ≠ -1 := fun e => hc (by rw [List.contains_iff_mem]; rw [e] at hg2; exact hg2)
   omega)
  exact ⟨a, b⟩
theorem b0r (hi : i < w.s.R.length) : w.s.at_ (i + 1) = some (w.R i) := by
 unfold Sag.at_ Wk.R
 rw [if_pos (by omega), show ((i : Int) + 1 - 1).toNat = i by omega, l_s, l_r hi]
 rfl
theorem b1G (I : Inv D U w 1000 0) (Wf : w.wf U m) (hi : i < w.s.R.length) (h2 : (w.R i).state = 2) : a2n w (i + 1) = .ok (a6J w i) ∧ Inv D U (a6J w i) 1000 0 := by
 have hrl := Wf.rl
 have hp : a2n w (i + 1) = .ok (a6J w i) := by
  unfold a2n a6J H1
  rw [b0r hi]
  simp only
  rw [show D8 (w.R i).state 2 = some 3 by rw [h2]; rfl]
  simp only [Except.bind, show ((i : Int) + 1 - 1).toNat = i by omega]
  rw [D4 hi, J6]
  rfl
 refine ⟨hp, ?_⟩
 refine a8i (t := 2) I (by omega) hi h2 (.inl rfl) ?_ ?_ ?_ ?_ (Wf.len _ (C2 hi)).2 ?_ <;> unfold a6J <;> rw [J6]
 any_goals rfl
 intro x hx
 rcases a6c hx with h | h
 ·exact .inr ⟨rfl, h⟩
 ·by_cases e : x.num = i + 1
  ·exact .inr ⟨rfl, e⟩
  ·exact .inl ⟨h, e⟩
theorem a5G (I : Inv D U w 1000 0) (Wf : w.wf U m) (hi : i < w.s.R.length) (h3 : (w.R i).state = 3) : N3 w (i + 1) = .ok (a0k w i) ∧ Inv D U (a0k w i) 1000 0 := by
 have hrl := Wf.rl
 have hp : N3 w (i + 1) = .ok (a0k w i) := by
  unfold N3 a0k H1
  rw [b0r hi]
  simp only
  rw [show D8 (w.R i).state 3 = some 4 by rw [h3]; rfl]
  simp only [Except.bind, show ((i : Int) + 1 - 1).toNat = i by omega]
  rw [D4 hi]
 refine ⟨hp, ?_⟩
 refine a8i (t := 3) I (by omega) hi h3 (.inr rfl) ?_ ?_ ?_ ?_ (Wf.len _ (C2 hi)).2 ?_ <;> unfold a0k <;> rw [J6]
 any_goals rfl
 intro x hx
 have := N5 hx
 exact .inl ⟨this.1, this.2⟩
theorem b8s (I : Inv D U w i 0) (hi : i < w.s.R.length) (h5 : (w.R i).state ≠ 5) (he : w.s.R.length ≤ e) : Inv D U w e 0 :=
 { I with
  res := fun j hj => by
   have := I.res j hj
   grind [a1T]
  mon := fun j hj hf => by
   have := I.mon j hj hf
   rw [this]
   simp
  cl := fun j hj h6 => ⟨(I.cl j hj h6).1, by omega⟩
  op := fun j hj h => by
   have := I.op j hj h
   grind }
theorem b0u (hD : Stc D U) (I : Inv D U w e q) (hq : 0 ≤ q) (Wf : w.wf U m) (hs : 0 ≤ s ∧ s ≤ 858993459200) (a b : Int) : P4 (w.put i r) a b s = .ok ((w.put i r).led (J7 w.s.led a b s)) := by
 unfold P4
 show (a1a w.s.led a b s).map _ = _
 rw [a6O hD I hq Wf hs]
 rfl
theorem a8p (hD : Stc D U) (I : Inv D U w 1000 0) (Wf : w.wf U m) {k : Nat} (hk : k < w.s.O.length) {x : Msg} (hx : w.s.O[k] = x) (hin : (x.rma - 1).toNat = i) (yes : Bool) {w1 : Wk} (hw1 : w1 = { w with s := { w.s with O := w.s.O.take k ++ w.s.O.drop (k + 1) } }) :
  (if x.kind = 1 ∧ yes = false then L6 w1 x.rma 8 else
    (if x.kind = 1 then H1 w1 x.rma 1 else if x.kind = 2 then a0E w1 i x.value yes else if x.kind = 3 then H5 D.ss w1 i yes
     else if I5 w1.s.K x.value (I6 yes) = 0 then .ok (w1.mv x.value (I6 yes)) else .error (I5 w1.s.K x.value (I6 yes))).map fun w2 => x9 w2 i) = .ok (T0 D.ss w1 x yes) ∧ Inv D U (T0 D.ss w1 x yes) 1000 0 := by
 have hL : b9a w.s.O w1.s.O x := by rw [hw1, ← hx]; exact b4m hk
 have hIx := I.msg x hL.mem
 have hrl := Wf.rl
 have hi : i < w.s.R.length := by have := hIx.rma; omega
 have hri : x.rma = i + 1 := by have := hIx.rma; omega
 have hR1 : w1.s.R = w.s.R := by rw [hw1]
 have hRR : ∀ j, w1.R j = w.R j := fun j => by rw [hw1]; rfl
 have hK1 : w1.s.K = w.s.K := by rw [hw1]
 have hT1 : w1.s.T = w.s.T := by rw [hw1]
 have hL1 : w1.s.led = w.s.led := by rw [hw1]
 have hi1 : i < w1.s.R.length := by rw [hR1]; exact hi
 have hrl1 : w1.s.R.length ≤ 100 := by rw [hR1]; exact hrl
 have W1 : w1.wf U m := by
  rw [hw1]
  exact ⟨Wf.kl, Wf.rl, Wf.rr, Wf.tg, Wf.tn, by rw [hw1] at hL; exact X8 hL.sub.length_le Wf.ol, fun y hy => by rw [hw1] at hL; exact Wf.ot y (hL.sub.subset hy), Wf.key, Wf.sl, Wf.now⟩
 have hres : x.kind ≠ 3 → 0 ≤ (w.R i).res → (w.R i).state = 5 → i9 w.s.K (w.R i).res = 7 → ∃ y ∈ w1.s.O, y.kind = 3 ∧ y.rma = i + 1 := fun hk3 h0 h5 h7 => by
  have h := (I.res i hi).2 h0
  rcases h.2.2 with ⟨_, _, h⟩ | ⟨h, _⟩
  ·rcases h h5 with h | ⟨y, y1, y2, y3⟩
   ·omega
   ·rcases hL.old y y1 with rfl | y4
    ·exact absurd y2 hk3
    ·exact ⟨y, y4, y2, by rw [y3]; exact (I.ret i hi).num⟩
  ·omega
 have hno3 : x.kind = 3 → ∀ y ∈ w1.s.O, y.kind = 3 → y.rma ≠ i + 1 := fun h3 y hy hy3 hyr => hL.no I.cls y hy (by unfold a1b; omega)
 have hwl := H6 hD (I.ret i hi) (Wf.len _ (C2 hi))
 have hpr := a4P hD (w.R i)
 have k3 := hIx.k3
 have k2 := hIx.k2
 have k4 := hIx.k4
 have k1 := hIx.k1
 have hki := hIx.kind
 rw [hin] at k1 k2 k3 k4
 by_cases h1 : x.kind = 1
 ·have hst := k1 h1
  cases yes with
  | false =>
   rw [if_pos ⟨h1, rfl⟩, show T0 D.ss w1 x false = M8 w1 i 8 by unfold T0; simp only [hin]; rw [if_pos h1, if_neg (by decide)]]
   have I1 : Inv D U w1 1000 0 := b8s (a2S I (by omega) hi hL hri hR1 hT1 hL1 (.inl ⟨h1, hK1, rfl⟩)) hi1 (by rw [hRR]; omega) (by omega)
   rw [hri]
   obtain ⟨a, b, _⟩ := a4d (st := 8) I1 W1 hi1 (by rw [hRR]; exact .inl hst) (by decide)
   exact ⟨a, b⟩
  | true =>
   rw [if_neg (by simp), if_pos h1, show T0 D.ss w1 x true = w1.put i { w1.R i with state := 2 } by unfold T0; simp only [hin]; rw [if_pos h1, if_pos trivial]]
   constructor
   ·unfold H1
    have h0 : ((i : Int) + 1 - 1).toNat = i := by omega
    rw [hri, b0r hi1]
    simp only
    rw [show D8 (w1.R i).state 1 = some 2 by rw [hRR, hst]; rfl]
    simp only [Except.map, h0]
    unfold x9
    rw [D4 hi1, if_neg (fun h => by simp at h)]
   ·exact b5V I (by omega) hi (m := x) hL h1 hri (by rw [hRR]; show w1.s.R.set _ _ = _; rw [hR1]) hK1 hT1 hL1
 rw [if_neg (fun h => h1 h.1), if_neg h1]
 have hQ : T0 D.ss w1 x yes = x9 (if x.kind = 2 then (if yes = true then a3Y w1 i x.value else G4 w1 i x.value) else if x.kind = 3 then (if yes = true then a0j D.ss w1 i else N2 (j2 w1 i) i (prc D.ss (w1.R i))) else w1.mv x.value (I6 yes)) i := by unfold T0; simp only [hin]; rw [if_neg h1]
 rw [hQ]
 by_cases h2 : x.kind = 2
 ·rw [if_pos h2, if_pos h2]
  obtain ⟨h5, hv⟩ := k2 h2
  have h51 : (w1.R i).state = 5 := by rw [hRR]; exact h5
  have I1 : Inv D U w1 i x.value := a2S I (by omega) hi hL hri hR1 hT1 hL1 (.inr (.inl ⟨h2, hK1, rfl⟩))
  have hb := a3p hD I1 (by omega) hi1 (.inl h51)
  rw [if_pos rfl, hRR] at hb
  cases yes with
  | true =>
   have hp : a0E w1 i x.value true = .ok (a3Y w1 i x.value) := by
    unfold a0E a3Y
    rw [if_pos rfl, a3F (by rw [hRR]; omega)]
    exact b0u hD I1 (by omega) W1 (by omega) 1 2
   rw [hp, if_pos rfl]
   refine ⟨rfl, Z5 ?_ (by show i < (w1.put i _).s.R.length; rw [n8]; exact hi1) (.inr ?_) (by show (w1.put i _).s.R.length ≤ _; rw [n8]; omega) ?_⟩
   ·have := a5d (W := a3Y w1 i x.value) (p := x.value) (c := 0) (g := 0) I1 hi1 h51 (by omega) (by simp [a3Y, Wk.led, Wk.put]) rfl rfl rfl (by simp [a3Y, Wk.led, J7, Led.put, Led.get])
    simpa using this
   ·show ((w1.put i _).R i).state = 5
    rw [D4 hi1]; exact h51
   ·intro a b c
    have e : (a3Y w1 i x.value).R i = { w1.R i with paid := (w1.R i).paid + x.value } := D4 hi1
    rw [e] at a c
    have c' : i9 w1.s.K (w1.R i).res = 7 := c
    rw [hK1, hRR] at c'
    exact hres (by omega) (by rw [← hRR]; exact a) h5 c'
  | false =>
   have hp : a0E w1 i x.value false = .ok (G4 w1 i x.value) := by
    unfold a0E V6 G4
    rw [if_neg (by decide), a3F (by rw [hRR]; omega)]
    exact b0u hD I1 (by omega) W1 (by omega) 1 3
   rw [hp, if_neg (by decide)]
   refine ⟨rfl, Z5 ?_ (by show i < (w1.put i _).s.R.length; rw [n8]; exact hi1) (.inr ?_) (by show (w1.put i _).s.R.length ≤ _; rw [n8]; omega) ?_⟩
   ·have := a5d (W := G4 w1 i x.value) (p := 0) (c := x.value) (g := 0) I1 hi1 h51 (by omega) (by simp [G4, Wk.led, Wk.put]) rfl rfl rfl (by simp [G4, Wk.led, J7, Led.put, Led.get])
    simpa using this
   ·show ((w1.put i _).R i).state = 5
    rw [D4 hi1]; exact h51
   ·intro a b c
    have e : (G4 w1 i x.value).R i = { w1.R i with credd := (w1.R i).credd + x.value } := D4 hi1
    rw [e] at a c
    have c' : i9 w1.s.K (w1.R i).res = 7 := c
    rw [hK1, hRR] at c'
    exact hres (by omega) (by rw [← hRR]; exact a) h5 c'
 rw [if_neg h2, if_neg h2]
 by_cases h3 : x.kind = 3
 ·rw [if_pos h3, if_pos h3]
  obtain ⟨h5, hv, hv0, h7⟩ := k3 h3
  have h51 : (w1.R i).state = 5 := by rw [hRR]; exact h5
  have I1 : Inv D U w1 i (prc D.ss (w.R i)) := a2S I (by omega) hi hL hri hR1 hT1 hL1 (.inr (.inr (.inl ⟨h3, hK1, rfl⟩)))
  have hb := a3p hD I1 hpr.1 hi1 (.inl h51)
  rw [if_pos rfl, hRR] at hb
  have h71 : i9 w1.s.K (w1.R i).res = 7 := by rw [hK1, hRR, ← hv]; exact h7
  have hr1 : 0 ≤ (w1.R i).res := by rw [hRR, ← hv]; exact hv0
  have hpe : prc D.ss (w1.R i) = prc D.ss (w.R i) := by rw [hRR]
  cases yes with
  | true =>
   have hp : H5 D.ss w1 i true = .ok (a0j D.ss w1 i) := by
    unfold H5 a0j
    simp only
    rw [if_pos trivial, show (s9 D.ss (w1.R i).want).getD 0 = prc D.ss (w1.R i) from rfl, a3F (by rw [hpe, hRR]; omega), D4 hi1]
    simp only
    rw [if_pos (show I5 (w1.put i _).s.K (w1.R i).res 8 = 0 by rw [a3V]; show I8 (i9 w1.s.K (w1.R i).res) 8; rw [h71]; decide)]
    unfold P4
    show (a1a w1.s.led 1 4 _).map _ = _
    rw [a6O hD I1 hpr.1 W1 (by rw [hpe]; omega)]
    rfl
   rw [hp, if_pos rfl]
   have hRg : (a0j D.ss w1 i).s.R = w1.s.R.set i { w1.R i with given := (w1.R i).given + prc D.ss (w1.R i) } := rfl
   have e : (a0j D.ss w1 i).R i = { w1.R i with given := (w1.R i).given + prc D.ss (w1.R i) } := by rw [(a0y hRg hi1).1, if_pos rfl]
   have hln := (a0y hRg hi1).2.1
   have hKg : (a0j D.ss w1 i).s.K = D9 w1.s.K (w1.R i).res 8 := rfl
   refine ⟨rfl, Z5 ?_ (by omega) (.inr ?_) (by omega) ?_⟩
   ·have := b5s (W := a0j D.ss w1 i) (s := prc D.ss (w1.R i)) I1 hi1 h51 hr1 h71 (hno3 h3) (by rw [hpe]; exact hpr.1) hRg hKg rfl rfl (by simp [a0j, Wk.led, J7, Led.put, Led.get])
    rw [hpe, Int.sub_self] at this
    exact this
   ·rw [e]; exact h51
   ·intro a b c
    rw [e] at c
    simp only at c
    rw [hKg, a0Z (by rw [h71]; decide), if_pos rfl] at c
    omega
  | false =>
   have hR0 : j2 w1 i = (w1.mv (w1.R i).res 3).put i { w1.R i with res := -1 } := by rw [j2, if_pos hr1]
   have hRi : (j2 w1 i).R i = { w1.R i with res := -1 } := by rw [hR0]; exact D4 hi1
   have I2 : Inv D U (j2 w1 i) i (prc D.ss (w.R i)) := a5v I1 hi1 h51 hr1 h71 (hno3 h3) (by rw [hR0]; rfl) (by rw [hR0]; rfl) (by rw [hR0]; rfl) (by rw [hR0]; rfl) (by rw [hR0]; rfl)
   have hln : (j2 w1 i).s.R.length = w1.s.R.length := C4 _ _
   obtain ⟨p1, p2, p3, p4, p5, p6, p7, p8⟩ := b4h hD I2 hpr.1 (W1.release hi1) (by omega) (by rw [hRi]; exact h51)
   have hp : H5 D.ss w1 i false = .ok (N2 (j2 w1 i) i (prc D.ss (w1.R i))) := by
    unfold H5
    simp only
    rw [if_neg (by decide), show (s9 D.ss (w1.R i).want).getD 0 = prc D.ss (w1.R i) from rfl, hpe]
    exact p1
   rw [hp, if_neg (by decide), hpe]
   refine ⟨rfl, Z5 p2 (by omega) (.inr p6) (by omega) (fun a _ _ => ?_)⟩
   rw [p7, hRi] at a
   simp at a
 ·rw [if_neg h3, if_neg h3]
  obtain ⟨h45, h8, hnr⟩ := k4 (by omega)
  have hto : I6 yes = 0 ∨ I6 yes = 6 := by unfold I6; split <;> simp
  rw [if_pos (by rw [a3V, hK1, h8]; unfold I8; omega)]
  have hLm : b9a w.s.O (w1.mv x.value (I6 yes)).s.O x := hL
  refine ⟨rfl, Z5 ?_ hi1 (by show (w1.R i).state = 4 ∨ (w1.R i).state = 5; rw [hRR]; exact h45) (by show w1.s.R.length ≤ _; omega) ?_⟩
  ·exact a2S I (by omega) hi hLm hri hR1 hT1 hL1 (.inr (.inr (.inr ⟨by omega, rfl, _, hto, by show D9 w1.s.K _ _ = _; rw [hK1]⟩)))
  ·intro a b c
   have a' : 0 ≤ (w1.R i).res := a
   have b' : (w1.R i).state = 5 := b
   have c' : i9 (D9 w1.s.K x.value (I6 yes)) (w1.R i).res = 7 := c
   rw [hRR] at a' b' c'
   rw [hK1, a0Z (by rw [h8]; unfold I8; omega), if_neg (hnr i hi)] at c'
   exact hres h3 a' b' c'
end
end
end Go.Proofs.YtjagmebglhbdkaaGreat.MX
