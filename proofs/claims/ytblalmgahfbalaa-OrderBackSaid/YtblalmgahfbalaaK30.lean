/- Texts in one file: Od18, Od20. -/
import Derived.Test.YtblalmgahfbalaaK29

/- Orders: what is written and what is read, in plain words. -/
namespace Go.Proofs.Ytblalmgahfbalaa.MX
open Go Go.Proofs
set_option linter.unusedSimpArgs false
set_option linter.unusedVariables false
set_option maxHeartbeats 4000000
theorem pw1 : (256 : Int) ^ 1 = 256 := by decide
theorem pw2 : (256 : Int) ^ 2 = 65536 := by decide
theorem pw4 : (256 : Int) ^ 4 = 4294967296 := by decide
theorem stp_back {n : Nat} {q : Q} (h : (stp n q).2 = false) : q.2 = false ∧ n ≤ q.1.length ∧ q.1 = le n (vl n q) ++ (stp n q).1 := by
  obtain ⟨bs, bad⟩ := q
  have hx : rdX n bs bad = false := h
  unfold rdX at hx
  simp only [Bool.or_eq_false_iff, decide_eq_false_iff_not] at hx
  obtain ⟨rfl, hl⟩ := hx
  refine ⟨rfl, by simp only; omega, ?_⟩
  show bs = le n (rdV n bs false) ++ rdB n bs false
  rw [rdV, rdB, if_neg (by simp; omega), if_neg (by simp; omega), le_num_n _ n (by rw [List.length_take]; omega), List.take_append_drop]
theorem stp_fwd (n : Nat) {v : Int} (hv : 0 ≤ v ∧ v < 256 ^ n) (r : List UInt8) : stp n (le n v ++ r, false) = (r, false) ∧ vl n (le n v ++ r, false) = v := by
  have hl : (le n v ++ r).length = n + r.length := by rw [List.length_append, le_length]
  have hc : ¬ (false = true ∨ (le n v ++ r).length < n) := by rw [hl]; simp
  constructor
  · show (rdB n (le n v ++ r) false, rdX n (le n v ++ r) false) = (r, false)
    rw [rdB, if_neg hc, rdX]
    refine Prod.ext ?_ ?_
    · exact List.drop_left' (le_length n v)
    · rw [hl]; simp
  · show rdV n (le n v ++ r) false = v
    rw [rdV, if_neg hc, List.take_left' (le_length n v)]
    exact num_le n v hv.1 hv.2
theorem vi_nn {q : Q} (h : 0 ≤ vi q) : vi q = vl 8 q := by
  have hv := rdV_nn 8 q.1 q.2
  have e : vl 8 q = rdV 8 q.1 q.2 := rfl
  rw [← e] at hv
  by_cases hb : vl 8 q < 9223372036854775808
  · exact wrap_i64 (by omega) hb
  · exfalso
    have h1 : vl 8 q < 18446744073709551616 := by simpa using hv.2
    have : IntKind.i64.wrap (vl 8 q) = vl 8 q - 18446744073709551616 := by
      generalize vl 8 q = x at *
      simp only [IntKind.wrap, IntKind.signed, IntKind.bits]
      simp
      omega
    unfold vi at h
    omega
theorem vi_fwd {v : Int} (hv : 0 ≤ v ∧ v < 9223372036854775808) (r : List UInt8) : stp 8 (le 8 v ++ r, false) = (r, false) ∧ vi (le 8 v ++ r, false) = v := by
  have h8 : (256 : Int) ^ 8 = 18446744073709551616 := by decide
  obtain ⟨h1, h2⟩ := stp_fwd 8 (v := v) ⟨hv.1, by rw [h8]; omega⟩ r
  refine ⟨h1, ?_⟩
  unfold vi
  rw [h2]
  exact wrap_i64 (by omega) hv.2
/-- Reading takes just the bytes of what is read. -/
def Back {α : Type} (p : Q → α × Q) (f : α → List UInt8) (ok : α → Prop) : Prop := ∀ q, (p q).2.2 = false → ok (p q).1 → q.2 = false ∧ q.1 = f (p q).1 ++ (p q).2.1
/-- Of the bytes of something just that is read. -/
def Fwd {α : Type} (p : Q → α × Q) (f : α → List UInt8) (ok : α → Prop) : Prop := ∀ x r, ok x → p (f x ++ r, false) = (x, (r, false))
theorem many_back {α : Type} {p : Q → α × Q} {f : α → List UInt8} {ok : α → Prop} (hp : Back p f ok) : ∀ n q, (pMany p n q).2.2 = false → (∀ x ∈ (pMany p n q).1, ok x) → q.2 = false ∧ q.1 = (pMany p n q).1.flatMap f ++ (pMany p n q).2.1
  | 0, q, h, _ => ⟨h, by simp [pMany]⟩
  | n + 1, q, h, hok => by
    have hs : pMany p (n + 1) q = ((pMany p n q).1 ++ [(p (pMany p n q).2).1], (p (pMany p n q).2).2) := rfl
    rw [hs] at h hok ⊢
    obtain ⟨h1, h2⟩ := hp _ h (hok _ (by simp))
    obtain ⟨h3, h4⟩ := many_back hp n q h1 fun x hx => hok x (by simp [hx])
    refine ⟨h3, ?_⟩
    rw [h4, h2]
    simp
theorem many_fwd {α : Type} {p : Q → α × Q} {f : α → List UInt8} {ok : α → Prop} (hp : Fwd p f ok) : ∀ (n : Nat) (l : List α) (r : List UInt8), l.length = n → (∀ x ∈ l, ok x) → pMany p n (l.flatMap f ++ r, false) = (l, (r, false))
  | 0, l, r, hl, _ => by rw [List.eq_nil_of_length_eq_zero hl]; rfl
  | n + 1, l, r, hl, hok => by
    obtain ⟨m, x, rfl⟩ : ∃ m x, l = m ++ [x] := by
      have hne : l ≠ [] := by intro e; subst e; simp at hl
      exact ⟨_, _, (List.dropLast_concat_getLast hne).symm⟩
    have hm : m.length = n := by rw [List.length_append] at hl; simpa using hl
    have h1 := many_fwd hp n m (f x ++ r) hm fun y hy => hok y (by simp [hy])
    have hs : ∀ q, pMany p (n + 1) q = ((pMany p n q).1 ++ [(p (pMany p n q).2).1], (p (pMany p n q).2).2) := fun _ => rfl
    have e : (m ++ [x]).flatMap f ++ r = m.flatMap f ++ (f x ++ r) := by simp
    rw [e, hs, h1, hp x r (hok x (by simp))]
theorem lin_back (k : Int) : Back pLin linB (okLine k) := by
  intro q h hok
  obtain ⟨h1, _, e1⟩ := stp_back h
  obtain ⟨h2, _, e2⟩ := stp_back h1
  obtain ⟨h3, _, e3⟩ := stp_back h2
  obtain ⟨h4, _, e4⟩ := stp_back h3
  refine ⟨h4, ?_⟩
  have hv : vi (stp 1 (stp 2 q)) = vl 8 (stp 1 (stp 2 q)) := vi_nn hok.1.2.1.1
  show q.1 = (le 2 (vl 2 q) ++ (le 1 (vl 1 (stp 2 q)) ++ (le 8 (vi (stp 1 (stp 2 q))) ++ le 1 (vl 1 (stp 8 (stp 1 (stp 2 q))))))) ++ (stp 1 (stp 8 (stp 1 (stp 2 q)))).1
  rw [hv]
  conv => lhs; rw [e4, e3, e2, e1]
  simp only [List.append_assoc]
theorem sup_back : Back pSup supB okSup := by
  intro q h hok
  obtain ⟨h1, _, e1⟩ := stp_back h
  obtain ⟨h2, _, e2⟩ := stp_back h1
  obtain ⟨h3, _, e3⟩ := stp_back h2
  refine ⟨h3, ?_⟩
  have hv : vi (stp 2 q) = vl 8 (stp 2 q) := vi_nn hok.2.1.1
  show q.1 = (le 2 (vl 2 q) ++ (le 8 (vi (stp 2 q)) ++ le 1 (vl 1 (stp 8 (stp 2 q))))) ++ (stp 1 (stp 8 (stp 2 q))).1
  rw [hv]
  conv => lhs; rw [e3, e2, e1]
  simp only [List.append_assoc]
def odrBp (x : POd) : List UInt8 := le 4 x.1 ++ (le 8 x.2.1 ++ (le 8 x.2.2.1 ++ (le 8 x.2.2.2.1 ++ (le 1 x.2.2.2.2.length ++ x.2.2.2.2.flatMap linB))))
theorem odrBp_pu (o : Odr) : odrBp o.pu = odrB o := rfl
def okP (k : Int) (x : POd) : Prop := (0 ≤ x.1 ∧ x.1 ≤ 100000) ∧ (x.2.2.2.2.length ≤ 8) ∧ okPrice x.2.1 ∧ okPrice x.2.2.1 ∧ okPrice x.2.2.2.1 ∧ ∀ l ∈ x.2.2.2.2, okLine k l
theorem okP_of {k : Int} {o : Odr} (h : okOrder k o) : okP k o.pu := ⟨h.1.1, h.1.2.1.2, h.1.2.2.1, h.1.2.2.2.1, h.1.2.2.2.2, h.2.1⟩
theorem odr_back (k : Int) : Back pOdr odrBp (okP k) := by
  intro q h hok
  obtain ⟨_, _, ⟨p1, _⟩, ⟨p2, _⟩, ⟨p3, _⟩, hl⟩ := hok
  obtain ⟨h0, e0⟩ := many_back (lin_back k) _ _ h hl
  obtain ⟨h1, _, e1⟩ := stp_back h0
  obtain ⟨h2, _, e2⟩ := stp_back h1
  obtain ⟨h3, _, e3⟩ := stp_back h2
  obtain ⟨h4, _, e4⟩ := stp_back h3
  obtain ⟨h5, _, e5⟩ := stp_back h4
  refine ⟨h5, ?_⟩
  have v1 : vi (stp 4 q) = vl 8 (stp 4 q) := vi_nn p1
  have v2 : vi (stp 8 (stp 4 q)) = vl 8 (stp 8 (stp 4 q)) := vi_nn p2
  have v3 : vi (stp 8 (stp 8 (stp 4 q))) = vl 8 (stp 8 (stp 8 (stp 4 q))) := vi_nn p3
  have hn := vl1 (stp 8 (stp 8 (stp 8 (stp 4 q))))
  have hln : (((pMany pLin (vl 1 (stp 8 (stp 8 (stp 8 (stp 4 q))))).toNat (stp 1 (stp 8 (stp 8 (stp 8 (stp 4 q)))))).1.length : Nat) : Int) = vl 1 (stp 8 (stp 8 (stp 8 (stp 4 q)))) := by rw [pMany_len]; omega
  show q.1 = (le 4 (vl 4 q) ++ (le 8 (vi (stp 4 q)) ++ (le 8 (vi (stp 8 (stp 4 q))) ++ (le 8 (vi (stp 8 (stp 8 (stp 4 q)))) ++ (le 1 ((pMany pLin (vl 1 (stp 8 (stp 8 (stp 8 (stp 4 q))))).toNat (stp 1 (stp 8 (stp 8 (stp 8 (stp 4 q)))))).1.length : Nat) ++ (pMany pLin (vl 1 (stp 8 (stp 8 (stp 8 (stp 4 q))))).toNat (stp 1 (stp 8 (stp 8 (stp 8 (stp 4 q)))))).1.flatMap linB))))) ++ (pMany pLin (vl 1 (stp 8 (stp 8 (stp 8 (stp 4 q))))).toNat (stp 1 (stp 8 (stp 8 (stp 8 (stp 4 q)))))).2.1
  rw [hln, v1, v2, v3]
  conv => lhs; rw [e5, e4, e3, e2, e1, e0]
  simp only [List.append_assoc]
theorem lin_fwd (k : Int) (hk : k ≤ 16) : Fwd pLin linB (okLine k) := by
  intro x r hok
  obtain ⟨⟨⟨s0, s1⟩, ⟨y0, y1⟩, c0, c1⟩, g0, g1⟩ := hok
  obtain ⟨a1, a2⟩ := stp_fwd 2 (v := x.sku) ⟨by omega, by rw [pw2]; omega⟩ (le 1 x.cat ++ (le 8 x.price ++ (le 1 x.count ++ r)))
  obtain ⟨b1, b2⟩ := stp_fwd 1 (v := x.cat) ⟨by omega, by rw [pw1]; omega⟩ (le 8 x.price ++ (le 1 x.count ++ r))
  obtain ⟨d1, d2⟩ := vi_fwd (v := x.price) ⟨by omega, by omega⟩ (le 1 x.count ++ r)
  obtain ⟨f1, f2⟩ := stp_fwd 1 (v := x.count) ⟨by omega, by rw [pw1]; omega⟩ r
  have e : linB x ++ r = le 2 x.sku ++ (le 1 x.cat ++ (le 8 x.price ++ (le 1 x.count ++ r))) := by simp only [linB, List.append_assoc]
  rw [e]
  simp only [pLin, a1, a2, b1, b2, d1, d2, f1, f2]
theorem sup_fwd : Fwd pSup supB okSup := by
  intro x r hok
  obtain ⟨⟨s0, s1⟩, ⟨y0, y1⟩, c0, c1⟩ := hok
  obtain ⟨a1, a2⟩ := stp_fwd 2 (v := x.sku) ⟨by omega, by rw [pw2]; omega⟩ (le 8 x.price ++ (le 1 x.count ++ r))
  obtain ⟨d1, d2⟩ := vi_fwd (v := x.price) ⟨by omega, by omega⟩ (le 1 x.count ++ r)
  obtain ⟨f1, f2⟩ := stp_fwd 1 (v := x.count) ⟨by omega, by rw [pw1]; omega⟩ r
  have e : supB x ++ r = le 2 x.sku ++ (le 8 x.price ++ (le 1 x.count ++ r)) := by simp only [supB, List.append_assoc]
  rw [e]
  simp only [pSup, a1, a2, d1, d2, f1, f2]
theorem odr_fwd (k : Int) (hk : k ≤ 16) : Fwd pOdr odrBp (okP k) := by
  rintro ⟨day, disc, tax, ship, ls⟩ r ⟨⟨t0, t1⟩, n1, ⟨p0, p1⟩, ⟨p2, p3⟩, ⟨p4, p5⟩, hl⟩
  simp only at t0 t1 n1 p0 p1 p2 p3 p4 p5 hl
  obtain ⟨a1, a2⟩ := stp_fwd 4 (v := day) ⟨by omega, by rw [pw4]; omega⟩ (le 8 disc ++ (le 8 tax ++ (le 8 ship ++ (le 1 ls.length ++ (ls.flatMap linB ++ r)))))
  obtain ⟨b1, b2⟩ := vi_fwd (v := disc) ⟨by omega, by omega⟩ (le 8 tax ++ (le 8 ship ++ (le 1 ls.length ++ (ls.flatMap linB ++ r))))
  obtain ⟨c1, c2⟩ := vi_fwd (v := tax) ⟨by omega, by omega⟩ (le 8 ship ++ (le 1 ls.length ++ (ls.flatMap linB ++ r)))
  obtain ⟨d1, d2⟩ := vi_fwd (v := ship) ⟨by omega, by omega⟩ (le 1 ls.length ++ (ls.flatMap linB ++ r))
  obtain ⟨f1, f2⟩ := stp_fwd 1 (v := (ls.length : Int)) ⟨by omega, by rw [pw1]; omega⟩ (ls.flatMap linB ++ r)
  have hm := many_fwd (lin_fwd k hk) ls.length ls r rfl hl
  have e : odrBp (day, disc, tax, ship, ls) ++ r = le 4 day ++ (le 8 disc ++ (le 8 tax ++ (le 8 ship ++ (le 1 ls.length ++ (ls.flatMap linB ++ r))))) := by simp only [odrBp, List.append_assoc]
  rw [e]
  simp only [pOdr, a1, a2, b1, b2, c1, c2, d1, d2, f1, f2, Int.toNat_natCast, hm]
theorem flat_pu (os : List Odr) : (os.map Odr.pu).flatMap odrBp = os.flatMap odrB := by
  induction os with
  | nil => rfl
  | cons o os ih => rw [List.map_cons, List.flatMap_cons, List.flatMap_cons, ih, odrBp_pu]
/-- What is read has just the bytes that were read. -/
theorem Reads.bytes {b : List UInt8} {C : Cfg} (h : Reads b C) : encC C = b := by
  obtain ⟨hok, h1, h2, h3, h4⟩ := h
  obtain ⟨k0, k1, k2, k3, k4, k5⟩ := hok
  have g1 := many_back sup_back _ (stp 1 (decO b).2) (show (decS b).2.2 = false by rw [h4]) (fun x hx => k4.1 x (by rw [h3]; exact hx))
  obtain ⟨g2, g3⟩ := g1
  obtain ⟨g4, _, g5⟩ := stp_back g2
  have g6 := many_back (odr_back C.ps.length) _ (stp 1 (bytesR (b, false)).2) g4 (fun x hx => by
    have hx : x ∈ (decO b).1 := hx
    rw [← h2] at hx
    obtain ⟨o, ho, rfl⟩ := List.mem_map.1 hx
    exact okP_of (k3 o ho))
  obtain ⟨g7, g8⟩ := g6
  obtain ⟨g9, _, g10⟩ := stp_back g7
  have hO : pMany pOdr (vl 1 (bytesR (b, false)).2).toNat (stp 1 (bytesR (b, false)).2) = decO b := rfl
  have hS : pMany pSup (vl 1 (decO b).2).toNat (stp 1 (decO b).2) = decS b := rfl
  rw [hS, h4, ← h3, List.append_nil] at g3
  rw [hO, ← h2, flat_pu] at g8
  have n1 : vl 1 (bytesR (b, false)).2 = (C.os.length : Int) := by
    have := congrArg List.length h2
    rw [← hO, pMany_len, List.length_map] at this
    have := vl1 (bytesR (b, false)).2
    omega
  have n2 : vl 1 (decO b).2 = (C.ss.length : Int) := by
    have := congrArg List.length h3
    rw [← hS, pMany_len] at this
    have := vl1 (decO b).2
    omega
  rw [n1] at g10
  rw [n2] at g5
  have hb : b = le 2 (bytesR (b, false)).1.length ++ ((bytesR (b, false)).1 ++ (bytesR (b, false)).2.1) := by
    have hv := vl2 (b, false)
    by_cases hc : (stp 2 (b, false)).2 = true ∨ (stp 2 (b, false)).1.length < (vl 2 (b, false)).toNat
    · have : bytesR (b, false) = ([], ([], true)) := by unfold bytesR; rw [if_pos hc]
      rw [this] at g9
      cases g9
    · have hR : bytesR (b, false) = ((stp 2 (b, false)).1.take (vl 2 (b, false)).toNat, ((stp 2 (b, false)).1.drop (vl 2 (b, false)).toNat, false)) := by unfold bytesR; rw [if_neg hc]
      have hbf : (stp 2 (b, false)).2 = false := by cases h : (stp 2 (b, false)).2 with
        | false => rfl
        | true => exact (hc (.inl h)).elim
      obtain ⟨_, _, e⟩ := stp_back hbf
      have hln : ((stp 2 (b, false)).1.take (vl 2 (b, false)).toNat).length = (vl 2 (b, false)).toNat := by rw [List.length_take]; omega
      rw [hR]
      simp only [hln, List.take_append_drop]
      rw [Int.toNat_of_nonneg hv.1]
      exact e
  rw [encC, h1]
  conv => rhs; rw [hb, g10, g8, g5, g3]
  simp only [List.append_assoc]
/-- Of a right config's bytes just it is read. -/
theorem reads_enc {C : Cfg} (hok : okCfg C) : Reads (encC C) C := by
  obtain ⟨k0, k1, k2, k3, k4, k5⟩ := id hok
  have hp := k0.1
  have hT := encT_len C.ps
  have e0 : encC C = le 2 (encT C.ps).length ++ (encT C.ps ++ (le 1 C.os.length ++ (C.os.flatMap odrB ++ (le 1 C.ss.length ++ C.ss.flatMap supB)))) := by simp only [encC, List.append_assoc]
  obtain ⟨a1, a2⟩ := stp_fwd 2 (v := ((encT C.ps).length : Int)) ⟨by omega, by rw [pw2]; omega⟩ (encT C.ps ++ (le 1 C.os.length ++ (C.os.flatMap odrB ++ (le 1 C.ss.length ++ C.ss.flatMap supB))))
  have hR : bytesR (encC C, false) = (encT C.ps, (le 1 C.os.length ++ (C.os.flatMap odrB ++ (le 1 C.ss.length ++ C.ss.flatMap supB)), false)) := by
    unfold bytesR
    rw [e0, a1, a2, Int.toNat_natCast, if_neg (by simp), List.take_left, List.drop_left]
  obtain ⟨b1, b2⟩ := stp_fwd 1 (v := (C.os.length : Int)) ⟨by omega, by rw [pw1]; omega⟩ (C.os.flatMap odrB ++ (le 1 C.ss.length ++ C.ss.flatMap supB))
  have hm := many_fwd (odr_fwd C.ps.length (by omega)) C.os.length (C.os.map Odr.pu) (le 1 C.ss.length ++ C.ss.flatMap supB) (by rw [List.length_map]) (fun x hx => by
    obtain ⟨o, ho, rfl⟩ := List.mem_map.1 hx
    exact okP_of (k3 o ho))
  rw [flat_pu] at hm
  have hO : decO (encC C) = (C.os.map Odr.pu, (le 1 C.ss.length ++ C.ss.flatMap supB, false)) := by
    unfold decO
    rw [hR]
    simp only [b1, b2, Int.toNat_natCast, hm]
  obtain ⟨c1, c2⟩ := stp_fwd 1 (v := (C.ss.length : Int)) ⟨by omega, by rw [pw1]; omega⟩ (C.ss.flatMap supB)
  have hm2 := many_fwd sup_fwd C.ss.length C.ss [] rfl k4.1
  rw [List.append_nil] at hm2
  have hS : decS (encC C) = (C.ss, ([], false)) := by
    unfold decS
    rw [hO]
    simp only [c1, c2, Int.toNat_natCast, hm2]
  exact ⟨hok, by rw [hR], by rw [hO], by rw [hS], by rw [hS]⟩
end Go.Proofs.Ytblalmgahfbalaa.MX

/- Orders: a config's clone. -/
namespace Go.Proofs.Ytblalmgahfbalaa.MX
open Go Go.Proofs
set_option linter.unusedSimpArgs false
set_option linter.unusedVariables false
set_option maxHeartbeats 8000000
theorem readT_I {I : Heap → Prop} {F : Heap → Option Value} {v : Value} {K : Value → Prop} {t : Tag K} (hI : ∀ h', I h' → F h' = some v) (h : Heap) (hh : I h) : readT I F K t = K v := by
  apply propext
  constructor
  · rintro ⟨u, h1, h2⟩
    have := h1 h hh
    rw [hI h hh] at this
    cases this
    exact h2
  · exact fun hk => ⟨v, hI, hk⟩
section
variable {h0 h : Heap} {l : List HP}
theorem CloneO_ok {A : Option Addr} {n c : Nat} {xs : List Odr} (S : St h0 h l) (ha : Arr Odr.enc 5 h A xs) (hn : n = xs.length) (hl : xs.length < 1000000000) :
    CallsH Try.prog 50 [.slice A n c] h fun v h' => St h0 h' (ownA Odr.enc 5 40 v xs :: l) :=
  (clone_ok (T := 40) (sz := 5) (bytes := 56) c_slices_Clone_api_Order_api_Order Odr.enc_len (by omega) Odr.enc_plain rfl ha hn (arr_none ha) (by omega) (by omega)).mono fun v h' ⟨ho, hf, _⟩ => S.ownNew hf ho
theorem CloneL_ok {A : Option Addr} {n c : Nat} {xs : List Lin} (S : St h0 h l) (ha : Arr Lin.enc 4 h A xs) (hn : n = xs.length) (hl : xs.length < 1000000000) :
    CallsH Try.prog 51 [.slice A n c] h fun v h' => St h0 h' (ownA Lin.enc 4 42 v xs :: l) :=
  (clone_ok (T := 42) (sz := 4) (bytes := 32) c_slices_Clone_api_Line_api_Line Lin.enc_len (by omega) Lin.enc_plain rfl ha hn (arr_none ha) (by omega) (by omega)).mono fun v h' ⟨ho, hf, _⟩ => S.ownNew hf ho
theorem CloneS_ok {A : Option Addr} {n c : Nat} {xs : List Sup} (S : St h0 h l) (ha : Arr Sup.enc 3 h A xs) (hn : n = xs.length) (hl : xs.length < 1000000000) :
    CallsH Try.prog 52 [.slice A n c] h fun v h' => St h0 h' (ownA Sup.enc 3 57 v xs :: l) :=
  (clone_ok (T := 57) (sz := 3) (bytes := 24) c_slices_Clone_api_Supply_api_Supply Sup.enc_len (by omega) Sup.enc_plain rfl ha hn (arr_none ha) (by omega) (by omega)).mono fun v h' ⟨ho, hf, _⟩ => S.ownNew hf ho
theorem CloneP_ok {A : Option Addr} {n c : Nat} {xs : List Pol} (S : St h0 h l) (ha : Arr Pol.enc 16 h A xs) (hn : n = xs.length) (hl : xs.length < 100000) :
    CallsH Try.prog 53 [.slice A n c] h fun v h' => St h0 h' (ownA Pol.enc 16 78 v xs :: l) :=
  (clone_ok (T := 78) (sz := 16) c_slices_Clone_api_Policy_api_Policy Pol.enc_len (by omega) Pol.enc_plain rfl ha hn (arr_none ha) (by omega) (by omega)).mono fun v h' ⟨ho, hf, _⟩ => S.ownNew hf ho
theorem OClone_ok (C : Cfg) (r : ∀ h', St h0 h' l → C.rd h') (l1 : C.os.length < 100000) (l2 : C.ss.length < 100000) (l3 : C.ps.length < 100000) (l4 : ∀ o ∈ C.os, o.ls.length < 100000) (S : St h0 h l) :
    CallsH Try.prog 20 [.agg C.enc.toArray] h fun v h' => ∃ D : Cfg, v = .agg D.enc.toArray ∧ D.wf ∧ D.pu = C.pu ∧ St h0 h' (ownA Odr.enc 5 40 (.slice D.A1 D.os.length D.c1) D.os :: ownA Sup.enc 3 57 (.slice D.A2 D.ss.length D.c2) D.ss :: ownA Pol.enc 16 78 (.slice D.A3 D.ps.length D.c3) D.ps :: (D.os.map oRow ++ l)) := by
  (refine enterK c_order_Clone (Nat.le_of_ble_eq_true rfl) fun K hK => ?_; (try simp (maxSteps := 1000000) (disch := first | omega | assumption | exact Nat.le_of_ble_eq_true rfl) only [go_sem, ↓mwp_block, simprocAttr, ir_order_Clone]))
  (refine st_alloc S ?_; clear S; intro g h S; (try simp only [splice_cons, splice_nil, List.set_cons_zero, List.set_cons_succ, Nat.zero_add, Nat.reduceAdd, List.cons_append, List.nil_append] at S); ((try clear F); have F := S.all; (try simp only [all_cons, all_nil, says_cell, and_true] at F)))
  (try simp (maxSteps := 1000000) (disch := first | omega | assumption | exact Nat.le_of_ble_eq_true rfl) only [go_sem, ↓mwp_block, simprocAttr])
  (refine st_alloc S ?_; clear S; intro p h S; (try simp only [splice_cons, splice_nil, List.set_cons_zero, List.set_cons_succ, Nat.zero_add, Nat.reduceAdd, List.cons_append, List.nil_append] at S); ((try clear F); have F := S.all; (try simp only [all_cons, all_nil, says_cell, and_true] at F)))
  (try simp (maxSteps := 1000000) (disch := first | omega | assumption | exact Nat.le_of_ble_eq_true rfl) only [go_sem, ↓mwp_block, simprocAttr, F, Cfg.enc])
  refine call_intro (CloneO_ok S (r _ S.tl.tl).os rfl (by omega)) ?_
  clear S F
  intro v h S
  obtain ⟨A1, c1, rfl⟩ := S.sl
  (try simp (maxSteps := 1000000) (disch := first | omega | assumption | exact Nat.le_of_ble_eq_true rfl) only [go_sem, ↓mwp_block, simprocAttr])
  refine st_store S.p2 rfl rfl (Nat.le_of_ble_eq_true rfl) ?_
  clear S
  intro h S
  rw [Cfg.enc] at S
  (try simp only [splice_cons, splice_nil, List.set_cons_zero, List.set_cons_succ, Nat.zero_add, Nat.reduceAdd, List.cons_append, List.nil_append] at S)
  ((try clear F); have F := S.all; (try simp only [all_cons, all_nil, says_cell, and_true] at F))
  (try simp (maxSteps := 1000000) (disch := first | omega | assumption | exact Nat.le_of_ble_eq_true rfl) only [go_sem, ↓mwp_block, simprocAttr, F])
  refine loop_intro (fun ρ h' => ρ 1 = .pointer (some ⟨g, 0, none⟩) ∧ ρ 2 = .pointer (some ⟨p, 0, none⟩) ∧ ρ 10 = .int .i64 C.os.length ∧ ∃ (i : Nat) (ys : List Odr), ρ 11 = .int .i64 i ∧ i ≤ C.os.length ∧ ys.length = i ∧ ys.map Odr.pu = (C.os.take i).map Odr.pu ∧
    St h0 h' (cellA g [.slice A1 C.os.length c1, .slice C.A2 C.ss.length C.c2, .slice C.A3 C.ps.length C.c3] 26 :: ownA Odr.enc 5 40 (.slice A1 C.os.length c1) (ys ++ C.os.drop i) :: cellA p [.slice none 0 0, .slice none 0 0, .slice none 0 0] 26 :: (ys.map oRow ++ l))) (fun ρ _ => C.os.length - (iv (ρ 11)).toNat) ?_ ?_
  · (try simp (maxSteps := 1000000) (disch := first | omega | assumption | exact Nat.le_of_ble_eq_true rfl) only [go_sem, ↓mwp_block, simprocAttr])
    exact ⟨0, [], rfl, by omega, rfl, rfl, S⟩
  clear S F
  rintro ρ h J hJ ⟨e1, e2, e10, i, ys, e11, hi, hyl, hyp, S⟩
  (try simp (maxSteps := 1000000) (disch := first | omega | assumption | exact Nat.le_of_ble_eq_true rfl) only [go_sem, ↓mwp_block, simprocAttr, e10, e11])
  refine cond_dec (fun hlt => ?_) (fun hlt => ?_)
  · have hil : i < C.os.length := by omega
    have hmem := List.getElem_mem hil
    obtain ⟨b, rfl⟩ := S.p1.ownAt (by rw [List.length_append, List.length_drop]; omega)
    have hwl : i < (ys ++ C.os.drop i).length := by rw [List.length_append, List.length_drop]; omega
    have hget : (ys ++ C.os.drop i)[i]'hwl = C.os[i] := by
      rw [List.getElem_append_right (by omega)]
      simp [hyl]
    have hel := own_part Odr.enc_len S.p1 (i := i) (j := 1) hwl (by omega)
    rw [hget] at hel
    have hg0 := st_rd1 (off := 0) S
    simp only [List.getElem?_cons_zero] at hg0
    have hrl := (r _ S.tl.tl.tl.dropL).ls _ hmem
    have hl4 := l4 _ hmem
    have hset : ∀ y : Odr, (ys ++ C.os.drop i).set i y = (ys ++ [y]) ++ C.os.drop (i + 1) := fun y => by
      rw [List.set_append_right _ _ (by omega), hyl, Nat.sub_self, List.drop_eq_getElem_cons hil, List.set_cons_zero, List.append_assoc]
      rfl
    have htk : (C.os.take (i + 1)).map Odr.pu = (C.os.take i).map Odr.pu ++ [C.os[i].pu] := by rw [List.take_succ_eq_append_getElem hil, List.map_append]; rfl
    generalize C.os[i] = o at *
    simp only [Odr.enc, List.getElem?_cons_succ, List.getElem?_cons_zero] at hel
    have hI : (fun h' => rd1 h' (.pointer (some ⟨g, 0, none⟩)) = some (.slice (some ⟨b, 0, none⟩) C.os.length c1) ∧ rd1 h' (.pointer (some ⟨b, i * 5 + 1, none⟩)) = some (.slice o.A o.ls.length o.c)) h := ⟨hg0, hel⟩
    have rx : ∀ K t, readT (fun h' => rd1 h' (.pointer (some ⟨g, 0, none⟩)) = some (.slice (some ⟨b, 0, none⟩) C.os.length c1) ∧ rd1 h' (.pointer (some ⟨b, i * 5 + 1, none⟩)) = some (.slice o.A o.ls.length o.c)) (fun h' => rd1 h' (.pointer (some ⟨g, 0, none⟩))) K t = K (.slice (some ⟨b, 0, none⟩) C.os.length c1) := fun K t => readT_I (fun h' hh => hh.1) h hI
    have ry : ∀ K t, readT (fun h' => rd1 h' (.pointer (some ⟨g, 0, none⟩)) = some (.slice (some ⟨b, 0, none⟩) C.os.length c1) ∧ rd1 h' (.pointer (some ⟨b, i * 5 + 1, none⟩)) = some (.slice o.A o.ls.length o.c)) (fun h' => rd1 h' (.pointer (some ⟨b, i * 5 + 1, none⟩))) K t = K (.slice o.A o.ls.length o.c) := fun K t => readT_I (fun h' hh => hh.2) h hI
    (try simp (maxSteps := 1000000) (disch := first | omega | assumption | exact Nat.le_of_ble_eq_true rfl) only [go_sem, ↓mwp_block, simprocAttr])
    refine draw_inv (fun h' => rd1 h' (.pointer (some ⟨g, 0, none⟩)) = some (.slice (some ⟨b, 0, none⟩) C.os.length c1) ∧ rd1 h' (.pointer (some ⟨b, i * 5 + 1, none⟩)) = some (.slice o.A o.ls.length o.c)) hI ?_
    (try simp (maxSteps := 1000000) (disch := first | omega | assumption | exact Nat.le_of_ble_eq_true rfl) only [go_sem, ↓mwp_block, simprocAttr, e1, e11, rx, ry])
    refine call_intro (CloneL_ok S hrl rfl (by omega)) ?_
    clear S rx ry hI hel hg0 hrl
    intro v h S
    obtain ⟨A', c', rfl⟩ := S.sl
    have hel := own_part Odr.enc_len S.p2 (i := i) (j := 1) hwl (by omega)
    rw [hget] at hel
    simp only [Odr.enc, List.getElem?_cons_succ, List.getElem?_cons_zero] at hel
    refine ⟨⟨st_rd1 (off := 0) S.p1, hel⟩, ?_⟩
    (try simp (maxSteps := 1000000) (disch := first | omega | assumption | exact Nat.le_of_ble_eq_true rfl) only [go_sem, ↓mwp_block, simprocAttr])
    refine st_setPart Odr.enc_len (i := i) (j := 1) (x := { o with A := A', c := c' }) S.p2 hwl (by omega) (Nat.le_of_ble_eq_true rfl) rfl rfl (by rw [hget]; rfl) ?_
    clear S hel
    intro h S
    rw [hset] at S
    (try simp (maxSteps := 1000000) (disch := first | omega | assumption | exact Nat.le_of_ble_eq_true rfl) only [go_sem, ↓mwp_block, simprocAttr, e11])
    refine hJ _ _ ?_ ?_
    · (try simp (maxSteps := 1000000) (disch := first | omega | assumption | exact Nat.le_of_ble_eq_true rfl) only [go_sem, ↓mwp_block, simprocAttr, e1, e2, e10])
      refine ⟨i + 1, ys ++ [{ o with A := A', c := c' }], rfl, by omega, by rw [List.length_append, hyl]; rfl, by rw [htk, List.map_append, hyp]; rfl, ?_⟩
      rw [List.map_append, List.append_assoc (ys.map oRow)]
      have S : St h0 h (_ :: _ :: _ :: oRow { o with A := A', c := c' } :: (ys.map oRow ++ l)) := S.p2.p2.p3.p3.p3
      exact S.perm (.cons _ (.cons _ (.cons _ List.perm_middle.symm)))
    · (try simp (maxSteps := 1000000) (disch := first | omega | assumption | exact Nat.le_of_ble_eq_true rfl) only [go_sem, ↓mwp_block, simprocAttr, e11])
      omega
  obtain rfl : i = C.os.length := by omega
  rw [List.take_length] at hyp
  rw [List.drop_length, List.append_nil] at S
  clear hJ
  have hg1 := st_rd1 (off := 1) S
  have hg2 := st_rd1 (off := 2) S
  simp only [List.getElem?_cons_succ, List.getElem?_cons_zero] at hg1 hg2
  have hrr := r _ S.tl.tl.tl.dropL
  have hI : (fun h' => rd1 h' (.pointer (some ⟨g, 1, none⟩)) = some (.slice C.A2 C.ss.length C.c2) ∧ rd1 h' (.pointer (some ⟨g, 2, none⟩)) = some (.slice C.A3 C.ps.length C.c3)) h := ⟨hg1, hg2⟩
  have rx : ∀ K t, readT (fun h' => rd1 h' (.pointer (some ⟨g, 1, none⟩)) = some (.slice C.A2 C.ss.length C.c2) ∧ rd1 h' (.pointer (some ⟨g, 2, none⟩)) = some (.slice C.A3 C.ps.length C.c3)) (fun h' => rd1 h' (.pointer (some ⟨g, 1, none⟩))) K t = K (.slice C.A2 C.ss.length C.c2) := fun K t => readT_I (fun h' hh => hh.1) h hI
  have ry : ∀ K t, readT (fun h' => rd1 h' (.pointer (some ⟨g, 1, none⟩)) = some (.slice C.A2 C.ss.length C.c2) ∧ rd1 h' (.pointer (some ⟨g, 2, none⟩)) = some (.slice C.A3 C.ps.length C.c3)) (fun h' => rd1 h' (.pointer (some ⟨g, 2, none⟩))) K t = K (.slice C.A3 C.ps.length C.c3) := fun K t => readT_I (fun h' hh => hh.2) h hI
  (try simp (maxSteps := 1000000) (disch := first | omega | assumption | exact Nat.le_of_ble_eq_true rfl) only [go_sem, ↓mwp_block, simprocAttr])
  refine draw_inv (fun h' => rd1 h' (.pointer (some ⟨g, 1, none⟩)) = some (.slice C.A2 C.ss.length C.c2) ∧ rd1 h' (.pointer (some ⟨g, 2, none⟩)) = some (.slice C.A3 C.ps.length C.c3)) hI ?_
  (try simp (maxSteps := 1000000) (disch := first | omega | assumption | exact Nat.le_of_ble_eq_true rfl) only [go_sem, ↓mwp_block, simprocAttr, e1, rx, ry])
  refine call_intro (CloneS_ok S hrr.ss rfl (by omega)) ?_
  clear S rx ry hI hg1 hg2 hrr
  intro v h S
  obtain ⟨A2, c2, rfl⟩ := S.sl
  refine ⟨⟨st_rd1 (off := 1) S.p1, st_rd1 (off := 2) S.p1⟩, ?_⟩
  have hrr := r _ S.tl.tl.tl.tl.dropL
  (try simp (maxSteps := 1000000) (disch := first | omega | assumption | exact Nat.le_of_ble_eq_true rfl) only [go_sem, ↓mwp_block, simprocAttr, e1])
  refine call_intro (CloneP_ok S hrr.ps rfl (by omega)) ?_
  clear S hrr
  intro v h S
  obtain ⟨A3, c3, rfl⟩ := S.sl
  (try simp (maxSteps := 1000000) (disch := first | omega | assumption | exact Nat.le_of_ble_eq_true rfl) only [go_sem, ↓mwp_block, simprocAttr])
  refine st_store S.p2 rfl rfl (Nat.le_of_ble_eq_true rfl) ?_
  clear S
  intro h S
  (try simp only [splice_cons, splice_nil, List.set_cons_zero, List.set_cons_succ, Nat.zero_add, Nat.reduceAdd, List.cons_append, List.nil_append] at S)
  (try simp (maxSteps := 1000000) (disch := first | omega | assumption | exact Nat.le_of_ble_eq_true rfl) only [go_sem, ↓mwp_block, simprocAttr, e1])
  refine st_store S rfl rfl (Nat.le_of_ble_eq_true rfl) ?_
  clear S
  intro h S
  (try simp only [splice_cons, splice_nil, List.set_cons_zero, List.set_cons_succ, Nat.zero_add, Nat.reduceAdd, List.cons_append, List.nil_append] at S)
  ((try clear F); have F := S.all; (try simp only [all_cons, all_nil, says_cell, and_true] at F))
  (try simp (maxSteps := 1000000) (disch := first | omega | assumption | exact Nat.le_of_ble_eq_true rfl) only [go_sem, ↓mwp_block, simprocAttr, e1, F, e2])
  refine st_store S.p4 rfl rfl (Nat.le_of_ble_eq_true rfl) ?_
  clear S F
  intro h S
  (try simp only [splice_cons, splice_nil, List.set_cons_zero, List.set_cons_succ, Nat.zero_add, Nat.reduceAdd, List.cons_append, List.nil_append] at S)
  ((try clear F); have F := S.all; (try simp only [all_cons, all_nil, says_cell, and_true] at F))
  (try simp (maxSteps := 1000000) (disch := first | omega | assumption | exact Nat.le_of_ble_eq_true rfl) only [go_sem, ↓mwp_block, simprocAttr, e2, F])
  obtain ⟨D, hD⟩ : ∃ D : Cfg, D = ⟨A1, c1, ys, A2, c2, C.ss, A3, c3, C.ps⟩ := ⟨_, rfl⟩
  refine hK _ _ ⟨D, ?_, ?_, ?_, ?_⟩
  · rw [hD, Cfg.enc, hyl]
  · have S := S.tl.tl
    have R := rows_arr (L := [_, _, _]) S
    obtain ⟨_, x1, x2⟩ := S.cap
    obtain ⟨_, y1, y2⟩ := S.p1.cap
    obtain ⟨_, z1, z2⟩ := S.p2.cap
    subst hD
    exact ⟨by simp only [hyl]; exact z1, z2, y1, y2, x1, x2, fun o ho => (R o ho).2⟩
  · rw [hD]
    simp only [Cfg.pu, hyp]
  · rw [hD]
    simp only [hyl]
    exact S.tl.tl.p1.p2
end
end Go.Proofs.Ytblalmgahfbalaa.MX
