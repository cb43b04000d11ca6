/- Texts in one file: Tb7, Tb8. -/
import Derived.Test.YtblalmgahfbalaaK25

/- A table's bytes and the table that they are: plain facts. -/
namespace Go.Proofs.Ytblalmgahfbalaa.MX
open Go Go.Proofs
set_option linter.unusedSimpArgs false
set_option linter.unusedVariables false

theorem fold_bad : ∀ ns : List Nat, ns.foldl (fun q n => stp n q) ([], true) = (([], true) : List UInt8 × Bool)
  | [] => rfl
  | n :: ns => by
    rw [List.foldl_cons]
    have : stp n ([], true) = ([], true) := by simp [stp, rdB, rdX]
    rw [this]
    exact fold_bad ns
theorem fold_stp : ∀ (ns : List Nat) (bs : List UInt8), (ns.sum ≤ bs.length → ns.foldl (fun q n => stp n q) (bs, false) = (bs.drop ns.sum, false)) ∧ (bs.length < ns.sum → ns.foldl (fun q n => stp n q) (bs, false) = ([], true))
  | [], bs => ⟨fun _ => by simp, fun h => by simp at h⟩
  | n :: ns, bs => by
    rw [List.foldl_cons, List.sum_cons]
    by_cases hn : bs.length < n
    · have : stp n (bs, false) = ([], true) := by simp [stp, rdB, rdX, hn]
      rw [this, fold_bad]
      exact ⟨fun h => by omega, fun _ => rfl⟩
    · have : stp n (bs, false) = (bs.drop n, false) := by simp [stp, rdB, rdX, hn]
      rw [this]
      have ih := fold_stp ns (bs.drop n)
      rw [List.length_drop] at ih
      refine ⟨fun h => ?_, fun h => ih.2 (by omega)⟩
      rw [ih.1 (by omega), List.drop_drop]
theorem q14_fold (q : List UInt8 × Bool) : q14 q = [2, 1, 2, 2, 2, 2, 2, 1, 2, 1, 2, 1, 2, 1].foldl (fun q n => stp n q) q := rfl
theorem q14_ok {bs : List UInt8} (h : 23 ≤ bs.length) : q14 (bs, false) = (bs.drop 23, false) := (fold_stp [2, 1, 2, 2, 2, 2, 2, 1, 2, 1, 2, 1, 2, 1] bs).1 h
theorem q14_no {bs : List UInt8} (h : bs.length < 23) : q14 (bs, false) = ([], true) := (fold_stp [2, 1, 2, 2, 2, 2, 2, 1, 2, 1, 2, 1, 2, 1] bs).2 h
theorem q14_bad : q14 ([], true) = ([], true) := fold_bad [2, 1, 2, 2, 2, 2, 2, 1, 2, 1, 2, 1, 2, 1]
theorem q_at (ns : List Nat) {bs : List UInt8} (h : ns.sum ≤ bs.length) (n : Nat) (h2 : ns.sum + n ≤ bs.length) : vl n (ns.foldl (fun q n => stp n q) (bs, false)) = num ((bs.drop ns.sum).take n) := by
  rw [(fold_stp ns bs).1 h, vl, rdV, if_neg (by simp; omega)]

/-- Fields that fit into their bytes. -/
def Pol.fits (p : Pol) : Prop := (0 ≤ p.w ∧ p.w < 65536) ∧ (0 ≤ p.f0 ∧ p.f0 < 65536) ∧ (0 ≤ p.f1 ∧ p.f1 < 65536) ∧ (0 ≤ p.f2 ∧ p.f2 < 65536) ∧ (0 ≤ p.f3 ∧ p.f3 < 65536) ∧ (0 ≤ p.s0 ∧ p.s0 < 65536) ∧ (0 ≤ p.t0 ∧ p.t0 < 256) ∧ (0 ≤ p.s1 ∧ p.s1 < 65536) ∧ (0 ≤ p.t1 ∧ p.t1 < 256) ∧ (0 ≤ p.s2 ∧ p.s2 < 65536) ∧ (0 ≤ p.t2 ∧ p.t2 < 256) ∧ (0 ≤ p.s3 ∧ p.s3 < 65536) ∧ (0 ≤ p.t3 ∧ p.t3 < 256)
theorem Pol.right_fits {p : Pol} (h : p.right) : p.fits := by
  obtain ⟨⟨p0, p1, p2, p3⟩, ⟨⟨r0, u0⟩, ⟨r1, u1⟩, ⟨r2, u2⟩, r3, u3⟩, w0, w1⟩ := h
  simp only [okPts] at *
  refine ⟨?_, ?_, ?_, ?_, ?_, ?_, ?_, ?_, ?_, ?_, ?_, ?_, ?_⟩ <;> omega
theorem vl_fits2 (q : List UInt8 × Bool) : 0 ≤ vl 2 q ∧ vl 2 q < 65536 := by have := rdV_nn 2 q.1 q.2; simpa [vl] using this
theorem vl_fits1 (q : List UInt8 × Bool) : 0 ≤ vl 1 q ∧ vl 1 q < 256 := by have := rdV_nn 1 q.1 q.2; simpa [vl] using this
theorem polR_fits (q : List UInt8 × Bool) : (polR q).fits :=
  ⟨vl_fits2 _, vl_fits2 _, vl_fits2 _, vl_fits2 _, vl_fits2 _, vl_fits2 _, vl_fits1 _, vl_fits2 _, vl_fits1 _, vl_fits2 _, vl_fits1 _, vl_fits2 _, vl_fits1 _⟩
theorem app_inj {a b c d : List UInt8} (hl : a.length = c.length) (h : a ++ b = c ++ d) : a = c ∧ b = d := List.append_inj h hl
theorem le2_inj {a b : Int} (h : le 2 a = le 2 b) (ha : 0 ≤ a ∧ a < 65536) (hb : 0 ≤ b ∧ b < 65536) : a = b := by
  have h1 := num_le 2 a ha.1 (by simpa using ha.2)
  have h2 := num_le 2 b hb.1 (by simpa using hb.2)
  rw [← h1, ← h2, h]
theorem le1_inj {a b : Int} (h : le 1 a = le 1 b) (ha : 0 ≤ a ∧ a < 256) (hb : 0 ≤ b ∧ b < 256) : a = b := by
  have h1 := num_le 1 a ha.1 (by simpa using ha.2)
  have h2 := num_le 1 b hb.1 (by simpa using hb.2)
  rw [← h1, ← h2, h]
theorem flags_inj {p r : Pol} (h : flagsOf p = flagsOf r) : p.fin = r.fin ∧ p.exc = r.exc ∧ p.cre = r.cre := by
  unfold flagsOf at h
  generalize p.fin = a at h ⊢
  generalize p.exc = b at h ⊢
  generalize p.cre = c at h ⊢
  generalize r.fin = d at h ⊢
  generalize r.exc = e at h ⊢
  generalize r.cre = f at h ⊢
  cases a <;> cases b <;> cases c <;> cases d <;> cases e <;> cases f <;> simp at h ⊢
theorem Pol.bytes_inj {p r : Pol} (hp : p.fits) (hr : r.fits) (h : p.bytes = r.bytes) : p = r := by
  have len : ∀ (n : Nat) (a b : Int), (le n a).length = (le n b).length := fun n a b => by rw [le_length, le_length]
  have fp := flagsOf_lt p
  have fr := flagsOf_lt r
  unfold Pol.bytes at h
  obtain ⟨e0, h⟩ := app_inj (len _ _ _) h
  obtain ⟨e1, h⟩ := app_inj (len _ _ _) h
  obtain ⟨e2, h⟩ := app_inj (len _ _ _) h
  obtain ⟨e3, h⟩ := app_inj (len _ _ _) h
  obtain ⟨e4, h⟩ := app_inj (len _ _ _) h
  obtain ⟨e5, h⟩ := app_inj (len _ _ _) h
  obtain ⟨e6, h⟩ := app_inj (len _ _ _) h
  obtain ⟨e7, h⟩ := app_inj (len _ _ _) h
  obtain ⟨e8, h⟩ := app_inj (len _ _ _) h
  obtain ⟨e9, h⟩ := app_inj (len _ _ _) h
  obtain ⟨e10, h⟩ := app_inj (len _ _ _) h
  obtain ⟨e11, h⟩ := app_inj (len _ _ _) h
  obtain ⟨e12, e13⟩ := app_inj (len _ _ _) h
  obtain ⟨a0, a2, a3, a4, a5, a6, a7, a8, a9, a10, a11, a12, a13⟩ := hp
  obtain ⟨c0, c2, c3, c4, c5, c6, c7, c8, c9, c10, c11, c12, c13⟩ := hr
  have g1 := flags_inj (le1_inj e1 (by omega) (by omega))
  have g0 := le2_inj e0 a0 c0
  have g2 := le2_inj e2 a2 c2
  have g3 := le2_inj e3 a3 c3
  have g4 := le2_inj e4 a4 c4
  have g5 := le2_inj e5 a5 c5
  have g6 := le2_inj e6 a6 c6
  have g7 := le1_inj e7 a7 c7
  have g8 := le2_inj e8 a8 c8
  have g9 := le1_inj e9 a9 c9
  have g10 := le2_inj e10 a10 c10
  have g11 := le1_inj e11 a11 c11
  have g12 := le2_inj e12 a12 c12
  have g13 := le1_inj e13 a13 c13
  cases p
  cases r
  simp_all
theorem flat_inj : ∀ {l m : List Pol}, (∀ p ∈ l, p.fits) → (∀ p ∈ m, p.fits) → l.length = m.length → l.flatMap Pol.bytes = m.flatMap Pol.bytes → l = m
  | [], [], _, _, _, _ => rfl
  | [], _ :: _, _, _, h, _ => by simp at h
  | _ :: _, [], _, _, h, _ => by simp at h
  | p :: l, r :: m, hl, hm, hn, h => by
    simp only [List.flatMap_cons] at h
    obtain ⟨h1, h2⟩ := app_inj (by rw [Pol.bytes_len, Pol.bytes_len]) h
    rw [Pol.bytes_inj (hl p (by simp)) (hm r (by simp)) h1, flat_inj (fun x hx => hl x (by simp [hx])) (fun x hx => hm x (by simp [hx])) (by simpa using hn) h2]
theorem encT_len (l : List Pol) : (encT l).length = 2 + l.length * 23 := by rw [encT, List.length_append, le_length, bytes_len]
theorem encT_inj {l m : List Pol} (hl : ∀ p ∈ l, p.fits) (hm : ∀ p ∈ m, p.fits) (h : encT l = encT m) : l = m := by
  have hn : l.length = m.length := by have := congrArg List.length h; rw [encT_len, encT_len] at this; omega
  unfold encT at h
  exact flat_inj hl hm hn (app_inj (by rw [le_length, le_length]) h).2

theorem flag_num {v : Int} (h0 : 0 ≤ v) (h7 : v ≤ 7) : (if fb 1 v then (1 : Int) else 0) + (if fb 2 v then 2 else 0) + (if fb 4 v then 4 else 0) = v := by
  obtain rfl | rfl | rfl | rfl | rfl | rfl | rfl | rfl : v = 0 ∨ v = 1 ∨ v = 2 ∨ v = 3 ∨ v = 4 ∨ v = 5 ∨ v = 6 ∨ v = 7 := by omega
  all_goals decide
theorem le_num_n (l : List UInt8) (n : Nat) (h : l.length = n) : le n (num l) = l := by subst h; exact le_num l

/-- The policy that is read has just the bytes that were read. -/
theorem polR_bytes {bs : List UInt8} (h : 23 ≤ bs.length) (h7 : vl 1 (q1 (bs, false)) ≤ 7) : (polR (bs, false)).bytes = bs.take 23 := by
  have hf : flagsOf (polR (bs, false)) = vl 1 (q1 (bs, false)) := flag_num (vl_fits1 _).1 h7
  have e0 : vl 2 (bs, false) = _ := q_at [] (by simp) 2 (by simp; omega)
  have e1 : vl 1 (q1 (bs, false)) = _ := q_at [2] (by simp; omega) 1 (by simp; omega)
  have e2 : vl 2 (q2 (bs, false)) = _ := q_at [2, 1] (by simp; omega) 2 (by simp; omega)
  have e3 : vl 2 (q3 (bs, false)) = _ := q_at [2, 1, 2] (by simp; omega) 2 (by simp; omega)
  have e4 : vl 2 (q4 (bs, false)) = _ := q_at [2, 1, 2, 2] (by simp; omega) 2 (by simp; omega)
  have e5 : vl 2 (q5 (bs, false)) = _ := q_at [2, 1, 2, 2, 2] (by simp; omega) 2 (by simp; omega)
  have e6 : vl 2 (q6 (bs, false)) = _ := q_at [2, 1, 2, 2, 2, 2] (by simp; omega) 2 (by simp; omega)
  have e7 : vl 1 (q7 (bs, false)) = _ := q_at [2, 1, 2, 2, 2, 2, 2] (by simp; omega) 1 (by simp; omega)
  have e8 : vl 2 (q8 (bs, false)) = _ := q_at [2, 1, 2, 2, 2, 2, 2, 1] (by simp; omega) 2 (by simp; omega)
  have e9 : vl 1 (q9 (bs, false)) = _ := q_at [2, 1, 2, 2, 2, 2, 2, 1, 2] (by simp; omega) 1 (by simp; omega)
  have e10 : vl 2 (q10 (bs, false)) = _ := q_at [2, 1, 2, 2, 2, 2, 2, 1, 2, 1] (by simp; omega) 2 (by simp; omega)
  have e11 : vl 1 (q11 (bs, false)) = _ := q_at [2, 1, 2, 2, 2, 2, 2, 1, 2, 1, 2] (by simp; omega) 1 (by simp; omega)
  have e12 : vl 2 (q12 (bs, false)) = _ := q_at [2, 1, 2, 2, 2, 2, 2, 1, 2, 1, 2, 1] (by simp; omega) 2 (by simp; omega)
  have e13 : vl 1 (q13 (bs, false)) = _ := q_at [2, 1, 2, 2, 2, 2, 2, 1, 2, 1, 2, 1, 2] (by simp; omega) 1 (by simp; omega)
  simp only [List.sum_cons, List.sum_nil, Nat.reduceAdd, Nat.add_zero, List.drop_zero] at e0 e1 e2 e3 e4 e5 e6 e7 e8 e9 e10 e11 e12 e13
  have hl : ∀ m n, m + n ≤ 23 → le n (num ((bs.drop m).take n)) = (bs.drop m).take n := fun m n hmn => le_num_n _ _ (by simp; omega)
  have h00 : le 2 (num (bs.take 2)) = bs.take 2 := le_num_n _ _ (by simp; omega)
  unfold Pol.bytes
  rw [hf]
  simp only [polR, e0, e1, e2, e3, e4, e5, e6, e7, e8, e9, e10, e11, e12, e13]
  rw [h00, hl 2 1 (by omega), hl 3 2 (by omega), hl 5 2 (by omega), hl 7 2 (by omega), hl 9 2 (by omega), hl 11 2 (by omega), hl 13 1 (by omega), hl 14 2 (by omega), hl 16 1 (by omega), hl 17 2 (by omega), hl 19 1 (by omega), hl 20 2 (by omega), hl 22 1 (by omega)]
  have j : ∀ m n, bs.take m ++ (bs.drop m).take n = bs.take (m + n) := fun m n => by rw [List.take_add]
  simp only [← List.append_assoc, j]
end Go.Proofs.Ytblalmgahfbalaa.MX

/- Tables decoded; the law TableBack. -/
namespace Go.Proofs.Ytblalmgahfbalaa.MX
open Go Go.Proofs
set_option linter.unusedSimpArgs false
set_option linter.unusedVariables false

theorem arr_none {α : Type} {enc : α → List Value} {sz : Nat} {h : Heap} {A : Option Addr} {xs : List α} (ha : Arr enc sz h A xs) : A = none → xs = [] := by
  rintro rfl
  cases xs with
  | nil => rfl
  | cons x xs => obtain ⟨b, off, hA, _⟩ := ha 0 (by simp); cases hA
/-- Some bytes are a right table's. -/
def IsT (b : List UInt8) : Prop := ∃ l, RightT l ∧ encT l = b
theorem isT_cnt {b : List UInt8} {l : List Pol} (h : encT l = b) (h16 : l.length ≤ 16) : 2 ≤ b.length ∧ num (b.take 2) = l.length ∧ b.length = 2 + 23 * l.length := by
  have h1 := encT_len l
  rw [h] at h1
  have h2 : b.take 2 = le 2 l.length := by
    rw [← h, encT, List.take_append_of_le_length (by rw [le_length]; exact Nat.le_refl _), List.take_of_length_le (by rw [le_length]; exact Nat.le_refl _)]
  refine ⟨by omega, ?_, by omega⟩
  rw [h2, num_le 2 _ (by omega) (by simp; omega)]
theorem flat_chunk : ∀ (l : List Pol) (k : Nat) (hk : k < l.length), ((l.flatMap Pol.bytes).drop (23 * k)).take 23 = l[k].bytes
  | p :: l, 0, _ => by
    simp only [Nat.mul_zero, List.drop_zero, List.flatMap_cons, List.getElem_cons_zero]
    rw [List.take_append_of_le_length (by rw [Pol.bytes_len]; exact Nat.le_refl _), List.take_of_length_le (by rw [Pol.bytes_len]; exact Nat.le_refl _)]
  | p :: l, k + 1, hk => by
    have ih := flat_chunk l k (by simpa using hk)
    simp only [List.flatMap_cons, List.getElem_cons_succ]
    rw [show 23 * (k + 1) = 23 + 23 * k by omega, ← List.drop_drop]
    have : (p.bytes ++ l.flatMap Pol.bytes).drop 23 = l.flatMap Pol.bytes := by
      rw [← Pol.bytes_len p, List.drop_left]
    rw [this, ih]
/-- A right table's flags are at most 7. -/
theorem flag_of_bytes {bs : List UInt8} {p : Pol} (h : bs.take 23 = p.bytes) (hl : 23 ≤ bs.length) : vl 1 (q1 (bs, false)) ≤ 7 := by
  have e1 : vl 1 (q1 (bs, false)) = _ := q_at [2] (by simp; omega) 1 (by simp; omega)
  rw [e1]
  have : (bs.drop 2).take 1 = le 1 (flagsOf p) := by
    have h2 : ((bs.take 23).drop 2).take 1 = (bs.drop 2).take 1 := by rw [List.drop_take, List.take_take]; rfl
    rw [← h2, h]
    unfold Pol.bytes
    rw [List.drop_append_of_le_length (by rw [le_length]; exact Nat.le_refl _), List.drop_of_length_le (by rw [le_length]; exact Nat.le_refl _), List.nil_append, List.take_append_of_le_length (by rw [le_length]; exact Nat.le_refl _), List.take_of_length_le (by rw [le_length]; exact Nat.le_refl _)]
  simp only [List.sum_cons, List.sum_nil, Nat.add_zero]
  rw [this, num_le 1 _ (flagsOf_lt p).1 (by have := (flagsOf_lt p).2; simp; omega)]
  have := (flagsOf_lt p).2
  omega

set_option maxRecDepth 20000 in
set_option maxHeartbeats 4000000 in
theorem Decode_ok {h0 h : Heap} {L : List HP} {A : Option Addr} {c : Nat} {b : List UInt8} (S : St h0 h L) (ha : Arr bEnc 1 h A b) (hl : b.length < 1000000) :
    CallsH Try.prog 36 [.slice A b.length c] h fun v h' => (∃ l s, RightT l ∧ encT l = b ∧ v = .tuple #[s, .int .i64 0] ∧ St h0 h' (ownA Pol.enc 16 78 s l :: L)) ∨ (¬ IsT b ∧ v = .tuple #[.slice none 0 0, .int .i64 3] ∧ St h0 h' L) := by
  (refine enterK c_table_Decode (Nat.le_of_ble_eq_true rfl) fun K hK => ?_; (try simp (maxSteps := 1000000) (disch := first | omega | assumption | exact Nat.le_of_ble_eq_true rfl) only [go_sem, ↓mwp_block, simprocAttr, ir_table_Decode]))
  refine call_intro (NewIn_ok S ha (arr_none ha) (by omega)) ?_
  rintro _ h ⟨i, rfl, S⟩
  (try simp (maxSteps := 1000000) (disch := first | omega | assumption | exact Nat.le_of_ble_eq_true rfl) only [go_sem, ↓mwp_block, simprocAttr])
  refine call_intro (Most_ok 16 S (by omega)) ?_
  intro r h hr
  obtain ⟨cnt, q, hcnt, rfl, S, hC⟩ : ∃ (cnt : Nat) (q : List UInt8 × Bool), cnt ≤ 16 ∧ r = .int .i64 cnt ∧ St h0 h (inA i q.1 q.2 :: L) ∧ ((2 ≤ b.length ∧ num (b.take 2) = cnt ∧ q = (b.drop 2, false)) ∨ (q = ([], true) ∧ ¬ IsT b)) := by
    split at hr
    · rename_i hgt
      obtain ⟨rfl, S⟩ := hr
      refine ⟨0, ([], true), by omega, rfl, S, .inr ⟨rfl, ?_⟩⟩
      rintro ⟨l, hR, he⟩
      have := isT_cnt he hR.1
      rw [rdV, if_neg (by simp; omega), this.2.1] at hgt
      have := hR.1
      omega
    · rename_i hgt
      obtain ⟨rfl, S⟩ := hr
      by_cases h2 : 2 ≤ b.length
      · have hv := num_nonneg (b.take 2)
        rw [rdV, if_neg (by simp; omega)] at hgt
        refine ⟨(num (b.take 2)).toNat, (b.drop 2, false), by omega, ?_, ?_, .inl ⟨h2, by omega, rfl⟩⟩
        · rw [rdV, if_neg (by simp; omega)]
          congr 1
          omega
        · rw [rdB, if_neg (by simp; omega)] at S
          have hx : rdX 2 b false = false := by simp [rdX]; omega
          rw [hx] at S
          exact S
      · refine ⟨0, ([], true), by omega, ?_, ?_, .inr ⟨rfl, ?_⟩⟩
        · rw [rdV, if_pos (.inr (by omega))]
          rfl
        · rw [rdB, if_pos (.inr (by omega))] at S
          have hx : rdX 2 b false = true := by simp [rdX]; omega
          rw [hx] at S
          exact S
        · rintro ⟨l, hR, he⟩
          have := (isT_cnt he hR.1).1
          omega
  have hql : q.1.length ≤ b.length := by rcases hC with ⟨_, _, rfl⟩ | ⟨rfl, _⟩ <;> simp
  (try simp (maxSteps := 1000000) (disch := first | omega | assumption | exact Nat.le_of_ble_eq_true rfl) only [go_sem, ↓mwp_block, simprocAttr])
  refine loop_intro (fun ρ h' => ρ 4 = .pointer (some ⟨i, 0, none⟩) ∧ ρ 11 = .int .i64 cnt ∧ ∃ (k : Nat) (l : List Pol) (q : List UInt8 × Bool), ρ 12 = .int .i64 k ∧ k ≤ cnt ∧ l.length = k ∧ (∀ p ∈ l, p.fits) ∧ q.1.length ≤ b.length ∧
      ((2 ≤ b.length ∧ num (b.take 2) = cnt ∧ q = (b.drop (2 + 23 * k), false) ∧ 2 + 23 * k ≤ b.length ∧ l.flatMap Pol.bytes = (b.drop 2).take (23 * k)) ∨ (q = ([], true) ∧ ¬ IsT b)) ∧ St h0 h' (ownA Pol.enc 16 78 (ρ 5) l :: inA i q.1 q.2 :: L)) (fun ρ _ => cnt - (iv (ρ 12)).toNat) ?_ ?_
  · (try simp (maxSteps := 1000000) (disch := first | omega | assumption | exact Nat.le_of_ble_eq_true rfl) only [go_sem, ↓mwp_block, simprocAttr])
    refine ⟨0, [], q, rfl, Nat.zero_le _, rfl, by simp, hql, ?_, S.nilS⟩
    rcases hC with ⟨h2, hn, rfl⟩ | hC
    · exact .inl ⟨h2, hn, rfl, by omega, by simp⟩
    · exact .inr hC
  · clear S hC hql
    rintro ρ h J hJ ⟨e4, e11, k, l, q, e12, hk, hlk, hfit, hql, hC, S⟩
    (try simp (maxSteps := 1000000) (disch := first | omega | assumption | exact Nat.le_of_ble_eq_true rfl) only [go_sem, ↓mwp_block, simprocAttr, e11, e12])
    refine cond_dec (fun hg => ?_) (fun hg => ?_)
    · (try simp (maxSteps := 1000000) (disch := first | omega | assumption | exact Nat.le_of_ble_eq_true rfl) only [go_sem, ↓mwp_block, simprocAttr, e4])
      refine call_intro (policy_ok S.p1 (by omega)) ?_
      rintro _ h ⟨rfl, S⟩
      (try simp (maxSteps := 1000000) (disch := first | omega | assumption | exact Nat.le_of_ble_eq_true rfl) only [go_sem, ↓mwp_block, simprocAttr])
      (refine st_alloc S ?_; clear S; intro g h S; (try simp only [splice_cons, splice_nil, List.set_cons_zero, List.set_cons_succ, Nat.zero_add, Nat.reduceAdd, List.cons_append, List.nil_append] at S); ((try clear F); have F := S.all; (try simp only [all_cons, all_nil, says_cell, and_true] at F)))
      (try simp (maxSteps := 1000000) (disch := first | omega | assumption | exact Nat.le_of_ble_eq_true rfl) only [go_sem, ↓mwp_block, simprocAttr, Pol.enc])
      (refine st_store (by first | exact S | exact S.p1 | exact S.p2 | exact S.p3 | exact S.p4 | exact S.p5 | exact S.p6 | exact S.p7 | exact S.p8 | exact S.p9 | exact S.p10 | exact S.p11) (by rfl) (by rfl) (Nat.le_of_ble_eq_true rfl) ?_; clear S; intro h S; (try simp only [splice_cons, splice_nil, List.set_cons_zero, List.set_cons_succ, Nat.zero_add, Nat.reduceAdd, List.cons_append, List.nil_append] at S); ((try clear F); have F := S.all; (try simp only [all_cons, all_nil, says_cell, and_true] at F)))
      (try simp (maxSteps := 1000000) (disch := first | omega | assumption | exact Nat.le_of_ble_eq_true rfl) only [go_sem, ↓mwp_block, simprocAttr])
      have hpf := polR_fits q
      have hq14 : (q14 q).1.length ≤ b.length ∧ (vl 1 (q1 q) ≤ 7 → ((2 ≤ b.length ∧ num (b.take 2) = cnt ∧ q14 q = (b.drop (2 + 23 * (k + 1)), false) ∧ 2 + 23 * (k + 1) ≤ b.length ∧ (l ++ [polR q]).flatMap Pol.bytes = (b.drop 2).take (23 * (k + 1))) ∨ (q14 q = ([], true) ∧ ¬ IsT b))) ∧ (¬ vl 1 (q1 q) ≤ 7 → ¬ IsT b) := by
        rcases hC with ⟨h2, hn, rfl, hle, hfl⟩ | ⟨rfl, hN⟩
        · by_cases h23 : 23 ≤ (b.drop (2 + 23 * k)).length
          · have hl23 := h23
            rw [List.length_drop] at hl23
            rw [q14_ok h23, List.drop_drop]
            refine ⟨by simp, fun h7 => .inl ⟨h2, hn, by rw [show 2 + 23 * k + 23 = 2 + 23 * (k + 1) by omega], by omega, ?_⟩, fun h7 hT => ?_⟩
            · rw [List.flatMap_append, hfl, List.flatMap_cons, List.flatMap_nil, List.append_nil, polR_bytes h23 h7, ← List.drop_drop, show 23 * (k + 1) = 23 * k + 23 by omega, List.take_add]
            · obtain ⟨m, hR, he⟩ := hT
              have hm := isT_cnt he hR.1
              have hkm : k < m.length := by have := hm.2.1; omega
              refine h7 (flag_of_bytes (p := m[k]) ?_ h23)
              rw [← flat_chunk m k hkm, ← List.drop_drop, ← he, encT]
              congr 2
          · have hN : ¬ IsT b := by
              rintro ⟨m, hR, he⟩
              have hm := isT_cnt he hR.1
              have : m.length = cnt := by have := hm.2.1; omega
              rw [List.length_drop] at h23
              omega
            rw [q14_no (by omega)]
            exact ⟨by simp, fun _ => .inr ⟨rfl, hN⟩, fun _ => hN⟩
        · rw [q14_bad]
          exact ⟨by simp, fun _ => .inr ⟨rfl, hN⟩, fun _ => hN⟩
      obtain ⟨hq1, hq2, hq3⟩ := hq14
      refine cond_decn (fun h7 => ?_) (fun h7 => ?_)
      · (try simp (maxSteps := 1000000) (disch := first | omega | assumption | exact Nat.le_of_ble_eq_true rfl) only [go_sem, ↓mwp_block, simprocAttr])
        exact hK _ _ (.inr ⟨hq3 h7, rfl, S.tl.tl.tl⟩)
      · (try simp (maxSteps := 1000000) (disch := first | omega | assumption | exact Nat.le_of_ble_eq_true rfl) only [go_sem, ↓mwp_block, simprocAttr, F])
        (refine st_alloc S ?_; clear S; intro w h S; (try simp only [splice_cons, splice_nil, List.set_cons_zero, List.set_cons_succ, Nat.zero_add, Nat.reduceAdd, List.cons_append, List.nil_append] at S); ((try clear F); have F := S.all; (try simp only [all_cons, all_nil, says_cell, and_true] at F)))
        (try simp (maxSteps := 1000000) (disch := first | omega | assumption | exact Nat.le_of_ble_eq_true rfl) only [go_sem, ↓mwp_block, simprocAttr])
        have hl16 : l.length ≤ 16 := by omega
        refine st_append1 (bytes := 112) (x := polR q) Pol.enc_len (by omega) Pol.enc_plain rfl (by rfl) (S.p3.p1) (by omega) (by omega) ?_
        clear S F
        intro v' h S
        (try simp (maxSteps := 1000000) (disch := first | omega | assumption | exact Nat.le_of_ble_eq_true rfl) only [go_sem, ↓mwp_block, simprocAttr, e4, e12])
        refine hJ _ _ ?_ ?_
        · (try simp (maxSteps := 1000000) (disch := first | omega | assumption | exact Nat.le_of_ble_eq_true rfl) only [go_sem, ↓mwp_block, simprocAttr, e4, e11, e12])
          refine ⟨k + 1, l ++ [polR q], q14 q, rfl, by omega, by simp [hlk], ?_, hq1, hq2 h7, ?_⟩
          · intro p hp
            rcases List.mem_append.1 hp with hp | hp
            · exact hfit p hp
            · simp at hp; rw [hp]; exact hpf
          · exact S.d1
        · (try simp (maxSteps := 1000000) (disch := first | omega | assumption | exact Nat.le_of_ble_eq_true rfl) only [go_sem, ↓mwp_block, simprocAttr, e12])
          omega
    · obtain rfl : k = cnt := by omega
      (try simp (maxSteps := 1000000) (disch := first | omega | assumption | exact Nat.le_of_ble_eq_true rfl) only [go_sem, ↓mwp_block, simprocAttr, e4])
      refine call_intro (Done_ok S.p1) ?_
      rintro _ _ ⟨rfl, rfl⟩
      by_cases hd : q.2 = false ∧ q.1 = []
      · obtain ⟨P5, c5, e5⟩ := S.sl
        rw [e5] at S
        (try simp (maxSteps := 1000000) (disch := first | omega | assumption | exact Nat.le_of_ble_eq_true rfl) only [go_sem, ↓mwp_block, simprocAttr, e5])
        refine call_intro (Right_ok (S.arr Pol.enc_len) rfl (by omega)) ?_
        rintro _ h ⟨rfl, hf⟩
        have S := S.frame hf
        rcases hC with ⟨h2, hn, rfl, hle, hfl⟩ | ⟨rfl, hN⟩
        · have hbl : b.length = 2 + 23 * k := by
            have h1 : b.drop (2 + 23 * k) = [] := hd.2
            have h2 := congrArg List.length h1
            rw [List.length_drop, List.length_nil] at h2
            omega
          have henc : encT l = b := by
            have e2 : (b.drop 2).take (23 * k) = b.drop 2 := List.take_of_length_le (by rw [List.length_drop]; omega)
            rw [encT, hfl, hlk, ← hn, le_num_n _ 2 (by simp; omega), e2, List.take_append_drop]
          by_cases hR : RightT l
          · (try simp (maxSteps := 1000000) (disch := first | omega | assumption | exact Nat.le_of_ble_eq_true rfl) only [go_sem, ↓mwp_block, simprocAttr, e5])
            exact hK _ _ (.inl ⟨l, _, hR, henc, rfl, S.d1⟩)
          · (try simp (maxSteps := 1000000) (disch := first | omega | assumption | exact Nat.le_of_ble_eq_true rfl) only [go_sem, ↓mwp_block, simprocAttr])
            refine hK _ _ (.inr ⟨?_, rfl, S.tl.tl⟩)
            rintro ⟨m, hm, he⟩
            have : m = l := encT_inj (fun p hp => Pol.right_fits (hm.2 p hp)) hfit (by rw [he, henc])
            exact hR (this ▸ hm)
        · exact absurd hd.1 (by simp)
      · (try simp (maxSteps := 1000000) (disch := first | omega | assumption | exact Nat.le_of_ble_eq_true rfl) only [go_sem, ↓mwp_block, simprocAttr])
        refine hK _ _ (.inr ⟨?_, rfl, S.tl.tl⟩)
        rcases hC with ⟨h2, hn, rfl, hle, hfl⟩ | ⟨rfl, hN⟩
        · rintro ⟨m, hm, he⟩
          have h3 := isT_cnt he hm.1
          have : m.length = k := by have := h3.2.1; omega
          exact hd ⟨rfl, List.drop_of_length_le (by omega)⟩
        · exact hN

theorem EqualP_ok {A B : Option Addr} {c d : Nat} {xs : List Pol} {h : Heap} (ha : Arr Pol.enc 16 h A xs) (hb : Arr Pol.enc 16 h B xs) (hl : xs.length < 1000000000) :
    CallsH Try.prog 62 [.slice A xs.length c, .slice B xs.length d] h fun v h' => v = .bool true ∧ h' = h := by
  (refine enterK c_slices_Equal_api_Policy_api_Policy (Nat.le_of_ble_eq_true rfl) fun K hK => ?_; (try simp (maxSteps := 1000000) (disch := first | omega | assumption | exact Nat.le_of_ble_eq_true rfl) only [go_sem, ↓mwp_block, simprocAttr, ir_slices_Equal_api_Policy_api_Policy]))
  refine loop_intro (fun ρ h' => h' = h ∧ ρ 0 = .slice A xs.length c ∧ ρ 1 = .slice B xs.length d ∧ ρ 12 = .int .i64 xs.length ∧ ∃ i : Nat, ρ 13 = .int .i64 i ∧ i ≤ xs.length) (fun ρ _ => xs.length - (iv (ρ 13)).toNat) ?_ ?_
  · (try simp (maxSteps := 1000000) (disch := first | omega | assumption | exact Nat.le_of_ble_eq_true rfl) only [go_sem, ↓mwp_block, simprocAttr])
    exact ⟨0, rfl, Nat.zero_le _⟩
  · rintro ρ h' J hJ ⟨hh, e0, e1, e12, i, e13, hi⟩
    subst hh
    (try simp (maxSteps := 1000000) (disch := first | omega | assumption | exact Nat.le_of_ble_eq_true rfl) only [go_sem, ↓mwp_block, simprocAttr, e12, e13])
    refine cond_dec (fun hg => ?_) (fun hg => ?_)
    · have hi1 : i < xs.length := by omega
      obtain ⟨b, off, rfl, hr1⟩ := ha.at hi1
      obtain ⟨b', off', rfl, hr2⟩ := hb.at hi1
      (try simp (maxSteps := 1000000) (disch := first | omega | assumption | exact Nat.le_of_ble_eq_true rfl) only [go_sem, ↓mwp_block, simprocAttr, e0, e1, e13])
      refine draw_eq ?_
      (try simp (maxSteps := 1000000) (disch := first | omega | assumption | exact Nat.le_of_ble_eq_true rfl) only [go_sem, ↓mwp_block, simprocAttr, e0, e1, e13, hr1, hr2, Pol.enc, beq_self_eq_true])
      refine hJ _ _ ?_ ?_
      · (try simp (maxSteps := 1000000) (disch := first | omega | assumption | exact Nat.le_of_ble_eq_true rfl) only [go_sem, ↓mwp_block, simprocAttr, e0, e1, e12, e13])
        exact ⟨i + 1, rfl, by omega⟩
      · (try simp (maxSteps := 1000000) (disch := first | omega | assumption | exact Nat.le_of_ble_eq_true rfl) only [go_sem, ↓mwp_block, simprocAttr, e13])
        omega
    · (try simp (maxSteps := 1000000) (disch := first | omega | assumption | exact Nat.le_of_ble_eq_true rfl) only [go_sem, ↓mwp_block, simprocAttr])
      exact hK _ _ ⟨rfl, rfl⟩
theorem Equal_ok {A B : Option Addr} {c d : Nat} {xs : List Pol} {h : Heap} (ha : Arr Pol.enc 16 h A xs) (hb : Arr Pol.enc 16 h B xs) (hl : xs.length < 1000000000) :
    CallsH Try.prog 30 [.slice A xs.length c, .slice B xs.length d] h fun v h' => v = .bool true ∧ h' = h := by
  (refine enterK c_table_Equal (Nat.le_of_ble_eq_true rfl) fun K hK => ?_; (try simp (maxSteps := 1000000) (disch := first | omega | assumption | exact Nat.le_of_ble_eq_true rfl) only [go_sem, ↓mwp_block, simprocAttr, ir_table_Equal]))
  refine call_intro (EqualP_ok ha hb hl) ?_
  rintro _ _ ⟨rfl, rfl⟩
  (try simp (maxSteps := 1000000) (disch := first | omega | assumption | exact Nat.le_of_ble_eq_true rfl) only [go_sem, ↓mwp_block, simprocAttr])
  exact hK _ _ ⟨rfl, rfl⟩
end Go.Proofs.Ytblalmgahfbalaa.MX
