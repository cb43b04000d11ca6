/- A table's bytes and the table that they are: plain facts. -/
import Derived.Test.YtackopkhelochaaTb6
namespace Go.Proofs.Ytackopkhelochaa.MX
open Go Go.Proofs
set_option linter.unusedSimpArgs false
set_option linter.unusedVariables false

theorem fold_bad : ∀ ns : List Nat, ns.foldl (fun q n => stp n q) ([], true) = (([], true) : List UInt8 × Bool)
  | [] => rfl
  | n :: ns => by
    rw [List.foldl_cons]
    have : stp n ([], true) = ([], true) := by simp [stp, rdB, rdX]
    rw [this]
    exact fold_bad ns
theorem fold_stp : ∀ (ns : List Nat) (bs : List UInt8), (ns.sum ≤ bs.length → ns.foldl (fun q n => stp n q) (bs, false) = (bs.drop ns.sum, false)) ∧ (bs.length < ns.sum → ns.foldl (fun q n => stp n q) (bs, false) = ([], true))
  | [], bs => ⟨fun _ => by simp, fun h => by simp at h⟩
  | n :: ns, bs => by
    rw [List.foldl_cons, List.sum_cons]
    by_cases hn : bs.length < n
    · have : stp n (bs, false) = ([], true) := by simp [stp, rdB, rdX, hn]
      rw [this, fold_bad]
      exact ⟨fun h => by omega, fun _ => rfl⟩
    · have : stp n (bs, false) = (bs.drop n, false) := by simp [stp, rdB, rdX, hn]
      rw [this]
      have ih := fold_stp ns (bs.drop n)
      rw [List.length_drop] at ih
      refine ⟨fun h => ?_, fun h => ih.2 (by omega)⟩
      rw [ih.1 (by omega), List.drop_drop]
theorem q14_fold (q : List UInt8 × Bool) : q14 q = [2, 1, 2, 2, 2, 2, 2, 1, 2, 1, 2, 1, 2, 1].foldl (fun q n => stp n q) q := rfl
theorem q14_ok {bs : List UInt8} (h : 23 ≤ bs.length) : q14 (bs, false) = (bs.drop 23, false) := (fold_stp [2, 1, 2, 2, 2, 2, 2, 1, 2, 1, 2, 1, 2, 1] bs).1 h
theorem q14_no {bs : List UInt8} (h : bs.length < 23) : q14 (bs, false) = ([], true) := (fold_stp [2, 1, 2, 2, 2, 2, 2, 1, 2, 1, 2, 1, 2, 1] bs).2 h
theorem q14_bad : q14 ([], true) = ([], true) := fold_bad [2, 1, 2, 2, 2, 2, 2, 1, 2, 1, 2, 1, 2, 1]
theorem q_at (ns : List Nat) {bs : List UInt8} (h : ns.sum ≤ bs.length) (n : Nat) (h2 : ns.sum + n ≤ bs.length) : vl n (ns.foldl (fun q n => stp n q) (bs, false)) = num ((bs.drop ns.sum).take n) := by
  rw [(fold_stp ns bs).1 h, vl, rdV, if_neg (by simp; omega)]

/-- Fields that fit into their bytes. -/
def Pol.fits (p : Pol) : Prop := (0 ≤ p.w ∧ p.w < 65536) ∧ (0 ≤ p.f0 ∧ p.f0 < 65536) ∧ (0 ≤ p.f1 ∧ p.f1 < 65536) ∧ (0 ≤ p.f2 ∧ p.f2 < 65536) ∧ (0 ≤ p.f3 ∧ p.f3 < 65536) ∧ (0 ≤ p.s0 ∧ p.s0 < 65536) ∧ (0 ≤ p.t0 ∧ p.t0 < 256) ∧ (0 ≤ p.s1 ∧ p.s1 < 65536) ∧ (0 ≤ p.t1 ∧ p.t1 < 256) ∧ (0 ≤ p.s2 ∧ p.s2 < 65536) ∧ (0 ≤ p.t2 ∧ p.t2 < 256) ∧ (0 ≤ p.s3 ∧ p.s3 < 65536) ∧ (0 ≤ p.t3 ∧ p.t3 < 256)
theorem Pol.right_fits {p : Pol} (h : p.right) : p.fits := by
  obtain ⟨⟨p0, p1, p2, p3⟩, ⟨⟨r0, u0⟩, ⟨r1, u1⟩, ⟨r2, u2⟩, r3, u3⟩, w0, w1⟩ := h
  simp only [okPts] at *
  refine ⟨?_, ?_, ?_, ?_, ?_, ?_, ?_, ?_, ?_, ?_, ?_, ?_, ?_⟩ <;> omega
theorem vl_fits2 (q : List UInt8 × Bool) : 0 ≤ vl 2 q ∧ vl 2 q < 65536 := by have := rdV_nn 2 q.1 q.2; simpa [vl] using this
theorem vl_fits1 (q : List UInt8 × Bool) : 0 ≤ vl 1 q ∧ vl 1 q < 256 := by have := rdV_nn 1 q.1 q.2; simpa [vl] using this
theorem polR_fits (q : List UInt8 × Bool) : (polR q).fits :=
  ⟨vl_fits2 _, vl_fits2 _, vl_fits2 _, vl_fits2 _, vl_fits2 _, vl_fits2 _, vl_fits1 _, vl_fits2 _, vl_fits1 _, vl_fits2 _, vl_fits1 _, vl_fits2 _, vl_fits1 _⟩
theorem app_inj {a b c d : List UInt8} (hl : a.length = c.length) (h : a ++ b = c ++ d) : a = c ∧ b = d := List.append_inj h hl
theorem le2_inj {a b : Int} (h : le 2 a = le 2 b) (ha : 0 ≤ a ∧ a < 65536) (hb : 0 ≤ b ∧ b < 65536) : a = b := by
  have h1 := num_le 2 a ha.1 (by simpa using ha.2)
  have h2 := num_le 2 b hb.1 (by simpa using hb.2)
  rw [← h1, ← h2, h]
theorem le1_inj {a b : Int} (h : le 1 a = le 1 b) (ha : 0 ≤ a ∧ a < 256) (hb : 0 ≤ b ∧ b < 256) : a = b := by
  have h1 := num_le 1 a ha.1 (by simpa using ha.2)
  have h2 := num_le 1 b hb.1 (by simpa using hb.2)
  rw [← h1, ← h2, h]
theorem flags_inj {p r : Pol} (h : flagsOf p = flagsOf r) : p.fin = r.fin ∧ p.exc = r.exc ∧ p.cre = r.cre := by
  unfold flagsOf at h
  generalize p.fin = a at h ⊢
  generalize p.exc = b at h ⊢
  generalize p.cre = c at h ⊢
  generalize r.fin = d at h ⊢
  generalize r.exc = e at h ⊢
  generalize r.cre = f at h ⊢
  cases a <;> cases b <;> cases c <;> cases d <;> cases e <;> cases f <;> simp at h ⊢
theorem Pol.bytes_inj {p r : Pol} (hp : p.fits) (hr : r.fits) (h : p.bytes = r.bytes) : p = r := by
  have len : ∀ (n : Nat) (a b : Int), (le n a).length = (le n b).length := fun n a b => by rw [le_length, le_length]
  have fp := flagsOf_lt p
  have fr := flagsOf_lt r
  unfold Pol.bytes at h
  obtain ⟨e0, h⟩ := app_inj (len _ _ _) h
  obtain ⟨e1, h⟩ := app_inj (len _ _ _) h
  obtain ⟨e2, h⟩ := app_inj (len _ _ _) h
  obtain ⟨e3, h⟩ := app_inj (len _ _ _) h
  obtain ⟨e4, h⟩ := app_inj (len _ _ _) h
  obtain ⟨e5, h⟩ := app_inj (len _ _ _) h
  obtain ⟨e6, h⟩ := app_inj (len _ _ _) h
  obtain ⟨e7, h⟩ := app_inj (len _ _ _) h
  obtain ⟨e8, h⟩ := app_inj (len _ _ _) h
  obtain ⟨e9, h⟩ := app_inj (len _ _ _) h
  obtain ⟨e10, h⟩ := app_inj (len _ _ _) h
  obtain ⟨e11, h⟩ := app_inj (len _ _ _) h
  obtain ⟨e12, e13⟩ := app_inj (len _ _ _) h
  obtain ⟨a0, a2, a3, a4, a5, a6, a7, a8, a9, a10, a11, a12, a13⟩ := hp
  obtain ⟨c0, c2, c3, c4, c5, c6, c7, c8, c9, c10, c11, c12, c13⟩ := hr
  have g1 := flags_inj (le1_inj e1 (by omega) (by omega))
  have g0 := le2_inj e0 a0 c0
  have g2 := le2_inj e2 a2 c2
  have g3 := le2_inj e3 a3 c3
  have g4 := le2_inj e4 a4 c4
  have g5 := le2_inj e5 a5 c5
  have g6 := le2_inj e6 a6 c6
  have g7 := le1_inj e7 a7 c7
  have g8 := le2_inj e8 a8 c8
  have g9 := le1_inj e9 a9 c9
  have g10 := le2_inj e10 a10 c10
  have g11 := le1_inj e11 a11 c11
  have g12 := le2_inj e12 a12 c12
  have g13 := le1_inj e13 a13 c13
  cases p
  cases r
  simp_all
theorem flat_inj : ∀ {l m : List Pol}, (∀ p ∈ l, p.fits) → (∀ p ∈ m, p.fits) → l.length = m.length → l.flatMap Pol.bytes = m.flatMap Pol.bytes → l = m
  | [], [], _, _, _, _ => rfl
  | [], _ :: _, _, _, h, _ => by simp at h
  | _ :: _, [], _, _, h, _ => by simp at h
  | p :: l, r :: m, hl, hm, hn, h => by
    simp only [List.flatMap_cons] at h
    obtain ⟨h1, h2⟩ := app_inj (by rw [Pol.bytes_len, Pol.bytes_len]) h
    rw [Pol.bytes_inj (hl p (by simp)) (hm r (by simp)) h1, flat_inj (fun x hx => hl x (by simp [hx])) (fun x hx => hm x (by simp [hx])) (by simpa using hn) h2]
theorem encT_len (l : List Pol) : (encT l).length = 2 + l.length * 23 := by rw [encT, List.length_append, le_length, bytes_len]
theorem encT_inj {l m : List Pol} (hl : ∀ p ∈ l, p.fits) (hm : ∀ p ∈ m, p.fits) (h : encT l = encT m) : l = m := by
  have hn : l.length = m.length := by have := congrArg List.length h; rw [encT_len, encT_len] at this; omega
  unfold encT at h
  exact flat_inj hl hm hn (app_inj (by rw [le_length, le_length]) h).2

theorem flag_num {v : Int} (h0 : 0 ≤ v) (h7 : v ≤ 7) : (if fb 1 v then (1 : Int) else 0) + (if fb 2 v then 2 else 0) + (if fb 4 v then 4 else 0) = v := by
  obtain rfl | rfl | rfl | rfl | rfl | rfl | rfl | rfl : v = 0 ∨ v = 1 ∨ v = 2 ∨ v = 3 ∨ v = 4 ∨ v = 5 ∨ v = 6 ∨ v = 7 := by omega
  all_goals decide
theorem le_num_n (l : List UInt8) (n : Nat) (h : l.length = n) : le n (num l) = l := by subst h; exact le_num l

/-- The policy that is read has just the bytes that were read. -/
theorem polR_bytes {bs : List UInt8} (h : 23 ≤ bs.length) (h7 : vl 1 (q1 (bs, false)) ≤ 7) : (polR (bs, false)).bytes = bs.take 23 := by
  have hf : flagsOf (polR (bs, false)) = vl 1 (q1 (bs, false)) := flag_num (vl_fits1 _).1 h7
  have e0 : vl 2 (bs, false) = _ := q_at [] (by simp) 2 (by simp; omega)
  have e1 : vl 1 (q1 (bs, false)) = _ := q_at [2] (by simp; omega) 1 (by simp; omega)
  have e2 : vl 2 (q2 (bs, false)) = _ := q_at [2, 1] (by simp; omega) 2 (by simp; omega)
  have e3 : vl 2 (q3 (bs, false)) = _ := q_at [2, 1, 2] (by simp; omega) 2 (by simp; omega)
  have e4 : vl 2 (q4 (bs, false)) = _ := q_at [2, 1, 2, 2] (by simp; omega) 2 (by simp; omega)
  have e5 : vl 2 (q5 (bs, false)) = _ := q_at [2, 1, 2, 2, 2] (by simp; omega) 2 (by simp; omega)
  have e6 : vl 2 (q6 (bs, false)) = _ := q_at [2, 1, 2, 2, 2, 2] (by simp; omega) 2 (by simp; omega)
  have e7 : vl 1 (q7 (bs, false)) = _ := q_at [2, 1, 2, 2, 2, 2, 2] (by simp; omega) 1 (by simp; omega)
  have e8 : vl 2 (q8 (bs, false)) = _ := q_at [2, 1, 2, 2, 2, 2, 2, 1] (by simp; omega) 2 (by simp; omega)
  have e9 : vl 1 (q9 (bs, false)) = _ := q_at [2, 1, 2, 2, 2, 2, 2, 1, 2] (by simp; omega) 1 (by simp; omega)
  have e10 : vl 2 (q10 (bs, false)) = _ := q_at [2, 1, 2, 2, 2, 2, 2, 1, 2, 1] (by simp; omega) 2 (by simp; omega)
  have e11 : vl 1 (q11 (bs, false)) = _ := q_at [2, 1, 2, 2, 2, 2, 2, 1, 2, 1, 2] (by simp; omega) 1 (by simp; omega)
  have e12 : vl 2 (q12 (bs, false)) = _ := q_at [2, 1, 2, 2, 2, 2, 2, 1, 2, 1, 2, 1] (by simp; omega) 2 (by simp; omega)
  have e13 : vl 1 (q13 (bs, false)) = _ := q_at [2, 1, 2, 2, 2, 2, 2, 1, 2, 1, 2, 1, 2] (by simp; omega) 1 (by simp; omega)
  simp only [List.sum_cons, List.sum_nil, Nat.reduceAdd, Nat.add_zero, List.drop_zero] at e0 e1 e2 e3 e4 e5 e6 e7 e8 e9 e10 e11 e12 e13
  have hl : ∀ m n, m + n ≤ 23 → le n (num ((bs.drop m).take n)) = (bs.drop m).take n := fun m n hmn => le_num_n _ _ (by simp; omega)
  have h00 : le 2 (num (bs.take 2)) = bs.take 2 := le_num_n _ _ (by simp; omega)
  unfold Pol.bytes
  rw [hf]
  simp only [polR, e0, e1, e2, e3, e4, e5, e6, e7, e8, e9, e10, e11, e12, e13]
  rw [h00, hl 2 1 (by omega), hl 3 2 (by omega), hl 5 2 (by omega), hl 7 2 (by omega), hl 9 2 (by omega), hl 11 2 (by omega), hl 13 1 (by omega), hl 14 2 (by omega), hl 16 1 (by omega), hl 17 2 (by omega), hl 19 1 (by omega), hl 20 2 (by omega), hl 22 1 (by omega)]
  have j : ∀ m n, bs.take m ++ (bs.drop m).take n = bs.take (m + n) := fun m n => by rw [List.take_add]
  simp only [← List.append_assoc, j]
end Go.Proofs.Ytackopkhelochaa.MX
