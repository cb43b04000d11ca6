/- Texts in one file: Sp2, MXV, Sp4, Sp5. -/
import Derived.Test.YtblalmgahfbalaaK14
import Derived.Test.YtblalmgahfbalaaK08
import Derived.Test.YtblalmgahfbalaaK09

/- The library's Div64: the plain law, and its walk. -/
namespace Go.Proofs.Ytblalmgahfbalaa.MX
open Go Go.Proofs
set_option linter.unusedSimpArgs false
set_option linter.unusedVariables false
set_option maxHeartbeats 8000000
set_option maxRecDepth 100000
/-! A digit, guessed and set right. -/
section
variable {y1 y0 u u1 q r : Nat}
theorem dig_top (hy : 0 < y1) (hu1 : u1 < 4294967296) : (u * 4294967296 + u1) / (y1 * 4294967296 + y0) ≤ u / y1 := by
  have h1 : (u * 4294967296 + u1) / (y1 * 4294967296 + y0) ≤ (u * 4294967296 + u1) / (4294967296 * y1) := Nat.div_le_div_left (by omega) (by omega)
  rw [← Nat.div_div_eq_div_mul, show (u * 4294967296 + u1) / 4294967296 = u by omega] at h1
  exact h1
theorem dig_low (hy : 0 < y1) (hq : q * y1 + r = u) (h : q * y0 ≤ r * 4294967296 + u1) : q ≤ (u * 4294967296 + u1) / (y1 * 4294967296 + y0) := by
  rw [Nat.le_div_iff_mul_le (by omega), Nat.mul_add, ← Nat.mul_assoc, ← hq, Nat.add_mul]
  omega
theorem dig_step (hy : 0 < y1) (hq : q * y1 + r = u) (h : r * 4294967296 + u1 < q * y0) : (u * 4294967296 + u1) / (y1 * 4294967296 + y0) < q := by
  rw [Nat.div_lt_iff_lt_mul (by omega)]
  have e1 : q * (y1 * 4294967296 + y0) = q * y1 * 4294967296 + q * y0 := by rw [Nat.mul_add, ← Nat.mul_assoc]
  rw [e1, ← hq]
  generalize q * y1 = a at *
  generalize q * y0 = b at *
  rw [Nat.add_mul, Nat.add_assoc]
  exact Nat.add_lt_add_left h _
theorem dig_lt (hy : 0 < y1) (hu1 : u1 < 4294967296) (hu : u < y1 * 4294967296 + y0) : (u * 4294967296 + u1) / (y1 * 4294967296 + y0) < 4294967296 := by
  rw [Nat.div_lt_iff_lt_mul (by omega)]
  omega
theorem dig_q0 (hy : 2147483648 ≤ y1) (hy0 : y0 < 4294967296) (hu : u < y1 * 4294967296 + y0) : u / y1 ≤ 4294967297 := by
  apply Nat.le_of_lt_succ
  rw [Nat.div_lt_iff_lt_mul (by omega)]
  omega
end
theorem loop_join {P : Program} {c : MCode} {id : Nat} {T : Env → Heap → Prop} {Q : MExit → Env → Heap → Prop} {ρ : Env} {h : Heap} {t1 : Tag c} {t2 : Tag (qblk id (qseq T Q))} {t3 : Tag ρ} {t4 : Tag h} (I : Env → Heap → Prop)
    (hw : ∀ J : Env → Heap → Prop, (∀ ρ h, I ρ h → J ρ h) → loopT P c (qblk id (qseq J Q)) ρ h ⟨⟩ ⟨⟩ ⟨⟩ ⟨⟩) (hT : ∀ ρ h, I ρ h → T ρ h) : loopT P c (qblk id (qseq T Q)) ρ h t1 t2 t3 t4 := hw T hT
theorem LeadingZeros64_ok (x : Nat) (hx : x < 18446744073709551616) (h : Heap) : CallsH Try.prog 87 [.int .u64 x] h fun v h' => v = .int .i64 (64 - (bitLen x : Int)) ∧ h' = h := by
  (refine enterK c_math_bits_LeadingZeros64 (Nat.le_of_ble_eq_true rfl) fun K hK => ?_; (try simp (maxSteps := 1000000) (disch := first | omega | assumption | exact Nat.le_of_ble_eq_true rfl) only [go_sem, ↓mwp_block, simprocAttr, ir_math_bits_LeadingZeros64]))
  refine call_intro (Len64_ok x hx h) ?_
  rintro _ _ ⟨rfl, rfl⟩
  have hb : bitLen x ≤ 64 := by
    by_cases h0 : x = 0
    · subst h0; decide
    · have := (bitLen_spec h0).1
      have h2 := (bitLen_spec h0).2.2
      apply Nat.le_of_not_lt
      intro h3
      have : 2 ^ 64 ≤ 2 ^ (bitLen x - 1) := Nat.pow_le_pow_right (by decide) (by omega)
      omega
  have hw : IntKind.i64.wrap (64 - (bitLen x : Int)) = 64 - (bitLen x : Int) := wrap_i64 (by omega) (by omega)
  (try simp (maxSteps := 1000000) (disch := first | omega | assumption | exact Nat.le_of_ble_eq_true rfl) only [go_sem, ↓mwp_block, simprocAttr, hw])
  exact hK _ _ ⟨rfl, rfl⟩
/-- How far a number is shifted, and what then holds. -/
theorem norm_spec {y : Nat} (h0 : 0 < y) (hy : y < 18446744073709551616) : ∃ s : Nat, 64 - (bitLen y : Int) = s ∧ s < 64 ∧ y * 2 ^ s < 18446744073709551616 ∧ 9223372036854775808 ≤ y * 2 ^ s := by
  obtain ⟨h1, h2, h3⟩ := bitLen_spec (n := y) (by omega)
  have hb : bitLen y ≤ 64 := by
    apply Nat.le_of_not_lt
    intro h4
    have : 2 ^ 64 ≤ 2 ^ (bitLen y - 1) := Nat.pow_le_pow_right (by decide) (by omega)
    omega
  refine ⟨64 - bitLen y, by omega, by omega, ?_, ?_⟩
  · have : y * 2 ^ (64 - bitLen y) < 2 ^ bitLen y * 2 ^ (64 - bitLen y) := Nat.mul_lt_mul_of_pos_right h2 (Nat.pow_pos (by decide))
    rw [← Nat.pow_add, show bitLen y + (64 - bitLen y) = 64 by omega] at this
    exact this
  · have : 2 ^ (bitLen y - 1) * 2 ^ (64 - bitLen y) ≤ y * 2 ^ (64 - bitLen y) := Nat.mul_le_mul_right _ h1
    rw [← Nat.pow_add, show bitLen y - 1 + (64 - bitLen y) = 63 by omega] at this
    exact this
/-- The whole, shifted, in digits. -/
theorem whole_spec {hi lo s : Nat} (hs : s < 64) (hlo : lo < 18446744073709551616) : (hi * 2 ^ s + lo / 2 ^ (64 - s)) * 18446744073709551616 + lo * 2 ^ s % 18446744073709551616 = (hi * 18446744073709551616 + lo) * 2 ^ s := by
  have e : 2 ^ (64 - s) * 2 ^ s = 18446744073709551616 := by rw [← Nat.pow_add, show 64 - s + s = 64 by omega]
  have h1 : lo * 2 ^ s / 18446744073709551616 = lo / 2 ^ (64 - s) := by rw [← e, Nat.mul_div_mul_right _ _ (Nat.pow_pos (by decide))]
  have h2 := Nat.div_add_mod (lo * 2 ^ s) 18446744073709551616
  rw [h1] at h2
  rw [Nat.add_mul, Nat.add_mul, Nat.mul_right_comm hi]
  omega
theorem two_digits {Y u32 u1 u0 : Nat} (hY : 0 < Y) (h0 : u0 < 4294967296) :
    let N1 := u32 * 4294967296 + u1
    let N0 := (N1 % Y) * 4294967296 + u0
    (u32 * 18446744073709551616 + (u1 * 4294967296 + u0)) / Y = (N1 / Y) * 4294967296 + N0 / Y ∧ (u32 * 18446744073709551616 + (u1 * 4294967296 + u0)) % Y = N0 % Y := by
  intro N1 N0
  have e1 := Nat.div_add_mod N1 Y
  have e2 := Nat.div_add_mod N0 Y
  have hlt := Nat.mod_lt N0 hY
  have hW : u32 * 18446744073709551616 + (u1 * 4294967296 + u0) = ((N1 / Y) * 4294967296 + N0 / Y) * Y + N0 % Y := by
    have e3 : N1 * 4294967296 + u0 = u32 * 18446744073709551616 + (u1 * 4294967296 + u0) := by show (u32 * 4294967296 + u1) * 4294967296 + u0 = _; omega
    have e4 : N0 = N1 % Y * 4294967296 + u0 := rfl
    rw [Nat.add_mul, Nat.mul_right_comm, Nat.mul_comm (N1 / Y) Y, Nat.mul_comm (N0 / Y) Y, Nat.add_assoc, e2, e4, ← e3, ← Nat.add_assoc, ← Nat.add_mul, e1]
  rw [hW]
  constructor
  · rw [Nat.mul_comm, Nat.mul_add_div hY, Nat.div_eq_of_lt hlt, Nat.add_zero]
  · rw [Nat.mul_comm, Nat.mul_add_mod, Nat.mod_eq_of_lt hlt]
theorem digits_ex {Y u32 u1 u0 : Nat} (hY : 0 < Y) (h0 : u0 < 4294967296) : ∃ q1 u21 q0 rm, q1 = (u32 * 4294967296 + u1) / Y ∧ q1 * Y + u21 = u32 * 4294967296 + u1 ∧ u21 < Y ∧ q0 = (u21 * 4294967296 + u0) / Y ∧ q0 * Y + rm = u21 * 4294967296 + u0 ∧ rm < Y ∧
    (u32 * 18446744073709551616 + (u1 * 4294967296 + u0)) / Y = q1 * 4294967296 + q0 ∧ (u32 * 18446744073709551616 + (u1 * 4294967296 + u0)) % Y = rm := by
  have h := two_digits (u32 := u32) (u1 := u1) hY h0
  refine ⟨_, _, _, _, rfl, ?_, Nat.mod_lt _ hY, rfl, ?_, Nat.mod_lt _ hY, h.1, h.2⟩
  · rw [Nat.mul_comm]; exact Nat.div_add_mod _ _
  · rw [Nat.mul_comm]; exact Nat.div_add_mod _ _
theorem lt_m1 {q : Nat} (h : q < 4294967296) : q * 4294967296 < 18446744073709551616 := by omega
theorem lt_m2 {q r : Nat} (h : q < 4294967296) (k : r < 4294967296) : q * 4294967296 + r < 18446744073709551616 := by omega
end Go.Proofs.Ytblalmgahfbalaa.MX

/- The engine, part V: things in a row; lists of things in another order. -/
namespace Go.Proofs.Ytblalmgahfbalaa.MX
open Go
set_option linter.unusedSimpArgs false
set_option linter.unusedVariables false

section
variable {α : Type} {F : α → HP} {h0 h : Heap} {l : List HP} {X : HP} {zs : List α} {n : Nat}
/-- Of things in a row: one taken out; and put back, or another one for it. -/
theorem row_pick (hn : n < zs.length) (S : St h0 h (X :: (zs.map F ++ l))) : St h0 h (F zs[n] :: X :: ((zs.take n ++ zs.drop (n + 1)).map F ++ l)) := by
  refine S.perm ?_
  have e : zs = zs.take n ++ zs[n] :: zs.drop (n + 1) := by rw [← List.drop_eq_getElem_cons hn, List.take_append_drop]
  conv => lhs; rw [e]
  rw [List.map_append, List.map_append, List.map_cons, List.append_assoc, List.append_assoc, List.cons_append]
  exact (List.Perm.cons X List.perm_middle).trans (List.Perm.swap _ _ _)
theorem row_put {z : α} (hn : n < zs.length) (S : St h0 h (F z :: X :: ((zs.take n ++ zs.drop (n + 1)).map F ++ l))) : St h0 h (X :: ((zs.set n z).map F ++ l)) := by
  refine S.perm ?_
  rw [List.set_eq_take_append_cons_drop, if_pos hn, List.map_append, List.map_append, List.map_cons, List.append_assoc, List.append_assoc, List.cons_append]
  exact (List.Perm.swap _ _ _).trans (List.Perm.cons X List.perm_middle.symm)
/-- A thing in a row, and another one for it that stands beside. -/
theorem row_swap {z : α} (hn : n < zs.length) (S : St h0 h (X :: F z :: (zs.map F ++ l))) : St h0 h (X :: ((zs.set n z).map F ++ l)) := by
  have S1 : St h0 h (X :: (zs.map F ++ (F z :: l))) := S.perm (List.Perm.cons X List.perm_middle.symm)
  have S2 := (row_pick hn S1).tl
  have S3 : St h0 h (F z :: X :: ((zs.take n ++ zs.drop (n + 1)).map F ++ l)) := S2.perm ((List.Perm.cons X List.perm_middle).trans (List.Perm.swap _ _ _))
  exact row_put hn S3
end

/-- One more thing behind a row. -/
theorem row_add {α : Type} {F : α → HP} {h0 h : Heap} {l : List HP} (R : List HP) {B : HP} {us : List α} {z : α} (S : St h0 h (F z :: (R ++ (B :: (us.map F ++ l))))) : St h0 h (R ++ (B :: ((us ++ [z]).map F ++ l))) := by
  refine S.perm ?_
  rw [List.map_append, List.append_assoc]
  exact List.perm_middle.symm.trans (List.Perm.append_left R ((List.Perm.swap _ _ _).trans (List.Perm.cons B List.perm_middle.symm)))
theorem St.dropL {h0 h : Heap} {l : List HP} : ∀ {ps : List HP}, St h0 h (ps ++ l) → St h0 h l
  | [], S => S
  | _ :: ps, S => St.dropL (ps := ps) S.tl
/-- What each thing in a row says. -/
theorem row_says {α : Type} {F : α → HP} {h0 h : Heap} {l : List HP} {zs : List α} (S : St h0 h (zs.map F ++ l)) : ∀ z ∈ zs, (F z).says h := by
  intro z hz
  obtain ⟨n, hn, rfl⟩ := List.getElem_of_mem hz
  have S1 := row_pick (X := empA) hn (St.emp.2 S)
  obtain ⟨B, hp, _⟩ := S1.hd
  exact ⟨B, hp⟩

/-- A slice's length and room. -/
theorem St.cap {α : Type} {enc : α → List Value} {sz T : Nat} {h0 h : Heap} {l : List HP} {A : Option Addr} {n c : Nat} {xs : List α} (S : St h0 h (ownA enc sz T (.slice A n c) xs :: l)) : n = xs.length ∧ n ≤ c ∧ c < 9223372036854775808 := by
  rcases S.own with ⟨hv, rfl⟩ | ⟨b, cap, cs, hv, _, hle, h63, _⟩
  · injection hv with e1 e2 e3
    subst e1 e2 e3
    simp
  · injection hv with e1 e2 e3
    subst e1 e2 e3
    exact ⟨rfl, hle, h63⟩

/-! Stores into a slice of the call's own. -/
section
variable {α : Type} {enc : α → List Value} {sz T : Nat} {h0 h : Heap} {l : List HP} {xs : List α}
theorem St.ownAt {A : Option Addr} {n c : Nat} (S : St h0 h (ownA enc sz T (.slice A n c) xs :: l)) (hne : 0 < xs.length) : ∃ b, A = some ⟨b, 0, none⟩ := by
  rcases S.own with ⟨_, rfl⟩ | ⟨b, cap, cs, hv, _⟩
  · simp at hne
  · injection hv with e1 e2 e3
    exact ⟨b, e1⟩
theorem splice_part (hsz : ∀ x, (enc x).length = sz) {i j : Nat} {vs cs : List Value} {x : α} (hi : i < xs.length) (hj : j + vs.length ≤ sz) (hx : enc x = splice (enc xs[i]) j vs) :
    splice (xs.flatMap enc ++ cs) (i * sz + j) vs = (xs.set i x).flatMap enc ++ cs := by
  have hlt : ((xs.take i).flatMap enc).length = i * sz := by rw [flat_length hsz, List.length_take, Nat.min_eq_left (by omega)]
  have h1 : xs.flatMap enc = (xs.take i).flatMap enc ++ (enc xs[i] ++ (xs.drop (i + 1)).flatMap enc) := by
    rw [flat_split enc xs i, List.drop_eq_getElem_cons hi, List.flatMap_cons]
  have he : enc xs[i] = (enc xs[i]).take j ++ (enc xs[i]).drop j := (List.take_append_drop _ _).symm
  have hjl : ((enc xs[i]).take j).length = j := by rw [List.length_take, hsz]; omega
  have hdl : ((enc xs[i]).drop j).length = sz - j := by rw [List.length_drop, hsz]
  have hx2 : enc x = (enc xs[i]).take j ++ vs ++ ((enc xs[i]).drop j).drop vs.length := by
    rw [hx]
    conv => lhs; rw [he]
    exact splice_append _ _ [] j hjl.symm vs (by omega)
  have e1 : xs.flatMap enc ++ cs = ((xs.take i).flatMap enc ++ (enc xs[i]).take j) ++ ((enc xs[i]).drop j ++ ((xs.drop (i + 1)).flatMap enc ++ cs)) := by
    rw [h1]
    conv => lhs; rw [he]
    simp only [List.append_assoc]
  rw [e1, splice_append _ _ [] (i * sz + j) (by rw [List.length_append, hlt, hjl]) vs (by rw [List.length_append]; omega), List.drop_append_of_le_length (by omega), List.set_eq_take_append_cons_drop, if_pos hi, List.flatMap_append, List.flatMap_cons, hx2]
  simp only [List.append_assoc]
theorem st_setPart (hsz : ∀ x, (enc x).length = sz) {b n c i j off m : Nat} {x : α} {vs : List Value} {K : Value → Heap → Prop} {s : Tag h} {t : Tag K} (S : St h0 h (ownA enc sz T (.slice (some ⟨b, 0, none⟩) n c) xs :: l))
    (hi : i < xs.length) (hoff : off = i * sz + j) (hj : j + vs.length ≤ sz) (hm : vs.length = m) (hpl : plainCells vs = true) (hx : enc x = splice (enc xs[i]) j vs)
    (hk : ∀ h', St h0 h' (ownA enc sz T (.slice (some ⟨b, 0, none⟩) n c) (xs.set i x) :: l) → K undef h') : storeT m (.pointer (some ⟨b, off, none⟩)) vs h K s t := by
  have ho := S.own
  rcases ho with ⟨hv, _⟩ | ⟨b', cap, cs, hv, _, hle, h63, hblk, hln⟩
  · cases hv
  injection hv with e1 e2 e3
  cases e1
  subst e2 e3
  have hfl := flat_length hsz xs
  have hroom : i * sz + sz ≤ xs.length * sz := by
    have := Nat.mul_le_mul_right sz (show i + 1 ≤ xs.length from hi)
    rwa [Nat.succ_mul] at this
  rw [storeT_eq, hblk]
  simp only [bind3]
  refine ⟨⟨hm, hpl, ?_⟩, ?_⟩
  · rw [room_00 (by rw [List.length_append, hfl]; omega)]
    trivial
  · rw [hoff, splice_part hsz hi hj hx]
    have hb := blk_lt hblk
    refine hk _ (S.ownUp ((Fr.refl _ _).set (.inl (by simp [blkOf])) _) ?_ (fun b hb => .inl hb))
    refine .inr ⟨b, c, cs, by rw [List.length_set], Nat.zero_le _, by rw [List.length_set]; exact hle, h63, blk_set_eq hb, ?_⟩
    rw [List.length_append, flat_length hsz, List.length_set, ← hfl, ← List.length_append]
    exact hln
theorem st_setOwn (hsz : ∀ x, (enc x).length = sz) {b n c i off m : Nat} {x : α} {vs : List Value} {K : Value → Heap → Prop} {s : Tag h} {t : Tag K} (S : St h0 h (ownA enc sz T (.slice (some ⟨b, 0, none⟩) n c) xs :: l))
    (hi : i < xs.length) (hoff : off = i * sz) (hvs : vs = enc x) (hm : sz = m) (hpl : plainCells vs = true)
    (hk : ∀ h', St h0 h' (ownA enc sz T (.slice (some ⟨b, 0, none⟩) n c) (xs.set i x) :: l) → K undef h') : storeT m (.pointer (some ⟨b, off, none⟩)) vs h K s t := by
  subst hvs
  refine st_setPart hsz (j := 0) S hi hoff (by rw [hsz]; omega) (by rw [hsz]; exact hm) hpl ?_ hk
  have := splice_append [] (enc xs[i]) [] 0 rfl (enc x) (by rw [hsz, hsz]; exact Nat.le_refl _)
  rw [List.nil_append, List.nil_append, List.drop_of_length_le (by rw [hsz, hsz]; exact Nat.le_refl _), List.append_nil] at this
  exact this.symm
end

/-! Lists in another order. -/
theorem pm0 { x : HP} {t M : List HP} (h : (t).Perm M) : (x :: t).Perm (x :: M) := (perm_pick [] x t).trans (List.Perm.cons x h)
theorem pm1 {a x : HP} {t M : List HP} (h : (a :: t).Perm M) : (a :: x :: t).Perm (x :: M) := (perm_pick [a] x t).trans (List.Perm.cons x h)
theorem pm2 {a b x : HP} {t M : List HP} (h : (a :: b :: t).Perm M) : (a :: b :: x :: t).Perm (x :: M) := (perm_pick [a, b] x t).trans (List.Perm.cons x h)
theorem pm3 {a b c x : HP} {t M : List HP} (h : (a :: b :: c :: t).Perm M) : (a :: b :: c :: x :: t).Perm (x :: M) := (perm_pick [a, b, c] x t).trans (List.Perm.cons x h)
theorem pm4 {a b c d x : HP} {t M : List HP} (h : (a :: b :: c :: d :: t).Perm M) : (a :: b :: c :: d :: x :: t).Perm (x :: M) := (perm_pick [a, b, c, d] x t).trans (List.Perm.cons x h)
theorem pm5 {a b c d e x : HP} {t M : List HP} (h : (a :: b :: c :: d :: e :: t).Perm M) : (a :: b :: c :: d :: e :: x :: t).Perm (x :: M) := (perm_pick [a, b, c, d, e] x t).trans (List.Perm.cons x h)
theorem pm6 {a b c d e f x : HP} {t M : List HP} (h : (a :: b :: c :: d :: e :: f :: t).Perm M) : (a :: b :: c :: d :: e :: f :: x :: t).Perm (x :: M) := (perm_pick [a, b, c, d, e, f] x t).trans (List.Perm.cons x h)
theorem pm7 {a b c d e f g x : HP} {t M : List HP} (h : (a :: b :: c :: d :: e :: f :: g :: t).Perm M) : (a :: b :: c :: d :: e :: f :: g :: x :: t).Perm (x :: M) := (perm_pick [a, b, c, d, e, f, g] x t).trans (List.Perm.cons x h)
theorem pm8 {a b c d e f g i x : HP} {t M : List HP} (h : (a :: b :: c :: d :: e :: f :: g :: i :: t).Perm M) : (a :: b :: c :: d :: e :: f :: g :: i :: x :: t).Perm (x :: M) := (perm_pick [a, b, c, d, e, f, g, i] x t).trans (List.Perm.cons x h)
theorem pm9 {a b c d e f g i j x : HP} {t M : List HP} (h : (a :: b :: c :: d :: e :: f :: g :: i :: j :: t).Perm M) : (a :: b :: c :: d :: e :: f :: g :: i :: j :: x :: t).Perm (x :: M) := (perm_pick [a, b, c, d, e, f, g, i, j] x t).trans (List.Perm.cons x h)
theorem pm10 {a b c d e f g i j k x : HP} {t M : List HP} (h : (a :: b :: c :: d :: e :: f :: g :: i :: j :: k :: t).Perm M) : (a :: b :: c :: d :: e :: f :: g :: i :: j :: k :: x :: t).Perm (x :: M) := (perm_pick [a, b, c, d, e, f, g, i, j, k] x t).trans (List.Perm.cons x h)
theorem pm11 {a b c d e f g i j k m x : HP} {t M : List HP} (h : (a :: b :: c :: d :: e :: f :: g :: i :: j :: k :: m :: t).Perm M) : (a :: b :: c :: d :: e :: f :: g :: i :: j :: k :: m :: x :: t).Perm (x :: M) := (perm_pick [a, b, c, d, e, f, g, i, j, k, m] x t).trans (List.Perm.cons x h)
theorem pm12 {a b c d e f g i j k m n x : HP} {t M : List HP} (h : (a :: b :: c :: d :: e :: f :: g :: i :: j :: k :: m :: n :: t).Perm M) : (a :: b :: c :: d :: e :: f :: g :: i :: j :: k :: m :: n :: x :: t).Perm (x :: M) := (perm_pick [a, b, c, d, e, f, g, i, j, k, m, n] x t).trans (List.Perm.cons x h)
/-- A block that was made for some values is a slice of the call's own. -/
theorem St.cellOwn {α : Type} {enc : α → List Value} {sz : Nat} (hsz : ∀ x, (enc x).length = sz) {h0 h : Heap} {l : List HP} {b T : Nat} {ys : List α} {cs : List Value} (S : St h0 h (cellA b cs T :: l)) (hc : cs = ys.flatMap enc) (hl : ys.length < 9223372036854775808) : St h0 h (ownA enc sz T (.slice (some ⟨b, 0, none⟩) ys.length ys.length) ys :: l) := by
  obtain ⟨B, ⟨hB, hb⟩, _, hup⟩ := S.hd
  subst hB
  refine hup _ _ [b] (Fr.refl _ _) ⟨rfl, .inr ⟨b, ys.length, [], rfl, Nat.zero_le _, Nat.le_refl _, hl, ?_, ?_⟩⟩ (fun b' hm => .inl hm)
  · rw [List.append_nil, hb, hc]
  · rw [List.append_nil, flat_length hsz]
end Go.Proofs.Ytblalmgahfbalaa.MX

/- The library's sort, part 1: swaps. -/
namespace Go.Proofs.Ytblalmgahfbalaa.MX
open Go Go.Proofs
set_option linter.unusedSimpArgs false
set_option linter.unusedVariables false
set_option maxHeartbeats 4000000
def zEnc (x : Int) : List Value := [.int .i64 x]
theorem zEnc_len (x : Int) : (zEnc x).length = 1 := rfl
theorem zEnc_plain (x : Int) : plainCells (zEnc x) = true := rfl
section
variable {h0 h : Heap} {l : List HP}
theorem own_rd {T b n c : Nat} {D : List Int} (S : St h0 h (ownA zEnc 1 T (.slice (some ⟨b, 0, none⟩) n c) D :: l)) {i : Nat} {x : Int} (hx : D[i]? = some x) : rd1 h (.pointer (some ⟨b, i * 1, none⟩)) = some (.int .i64 x) := by
  obtain ⟨hi, rfl⟩ := List.getElem?_eq_some_iff.1 hx
  obtain ⟨b', o', hA, hr⟩ := S.arr zEnc_len i hi
  cases hA
  have := rd1_part hr 0 (by omega)
  simpa [zEnc] using this
theorem swap_list (A1 A2 A3 : List Int) (x y : Int) :
    let D := A1 ++ x :: (A2 ++ y :: A3)
    D[A1.length]? = some x ∧ D[A1.length + 1 + A2.length]? = some y ∧ (D.set A1.length y).set (A1.length + 1 + A2.length) x = A1 ++ y :: (A2 ++ x :: A3) ∧ (D.set (A1.length + 1 + A2.length) x).set A1.length y = A1 ++ y :: (A2 ++ x :: A3) := by
  have e : ∀ a : Int, (A1 ++ a :: (A2 ++ y :: A3)) = (A1 ++ a :: A2) ++ y :: A3 := fun a => by simp
  have e2 : ∀ a : Int, (A1 ++ a :: (A2 ++ x :: A3)) = (A1 ++ a :: A2) ++ x :: A3 := fun a => by simp
  have hl : ∀ a : Int, (A1 ++ a :: A2).length = A1.length + 1 + A2.length := fun a => by simp; omega
  intro D
  refine ⟨?_, ?_, ?_, ?_⟩
  · show (A1 ++ x :: _)[A1.length]? = _
    rw [List.getElem?_append_right (Nat.le_refl _), Nat.sub_self]; rfl
  · show (A1 ++ x :: (A2 ++ y :: A3))[_]? = _
    rw [e, ← hl x, List.getElem?_append_right (Nat.le_refl _), Nat.sub_self]; rfl
  · show ((A1 ++ x :: (A2 ++ y :: A3)).set _ y).set _ x = _
    rw [List.set_append_right _ _ (Nat.le_refl _), Nat.sub_self, List.set_cons_zero, e, ← hl y, List.set_append_right _ _ (Nat.le_refl _), Nat.sub_self, List.set_cons_zero, e2]
  · show ((A1 ++ x :: (A2 ++ y :: A3)).set _ x).set _ y = _
    rw [e, ← hl x, List.set_append_right _ _ (Nat.le_refl _), Nat.sub_self, List.set_cons_zero, ← e2, List.set_append_right _ _ (Nat.le_refl _), Nat.sub_self, List.set_cons_zero]
theorem i64N {n : Nat} (h : n < 9223372036854775808) : IntKind.i64.wrap (n : Int) = n := wrap_i64 (by omega) (by omega)
theorem addI {a b c : Nat} (h : a + b = c) (hc : c < 9223372036854775808) : IntKind.i64.wrap ((a : Int) + b) = c := by rw [show (a : Int) + b = c by omega]; exact i64N hc
theorem subI {a b c : Nat} (h : a = c + b) (hc : c < 9223372036854775808) : IntKind.i64.wrap ((a : Int) - b) = c := by rw [show (a : Int) - b = c by omega]; exact i64N hc
theorem swapRange_ok {A : Option Addr} {c : Nat} {fv : Value} (L P M Q R : List Int) (hPQ : P.length = Q.length) {n a b : Nat} (hn : n = (L ++ (P ++ (M ++ (Q ++ R)))).length) (ha : a = L.length) (hb : b = L.length + P.length + M.length) (hs : n < 1000000) {k : Nat} (hk : k = P.length)
    (S : St h0 h (ownA zEnc 1 3 (.slice A n c) (L ++ (P ++ (M ++ (Q ++ R)))) :: l)) :
    CallsH Try.prog 94 [.slice A n c, .int .i64 a, .int .i64 b, .int .i64 k, fv] h fun v h' => St h0 h' (ownA zEnc 1 3 (.slice A n c) (L ++ (Q ++ (M ++ (P ++ R)))) :: l) := by
  subst hk
  have hnl : n = L.length + (P.length + (M.length + (Q.length + R.length))) := by rw [hn]; simp only [List.length_append]
  (refine enterK c_slices_swapRangeCmpFunc_int (Nat.le_of_ble_eq_true rfl) fun K hK => ?_; (try simp (maxSteps := 1000000) (disch := first | omega | assumption | exact Nat.le_of_ble_eq_true rfl) only [go_sem, ↓mwp_block, simprocAttr, ir_slices_swapRangeCmpFunc_int]))
  refine loop_intro (fun ρ h' => ρ 0 = .slice A n c ∧ ρ 1 = .int .i64 a ∧ ρ 2 = .int .i64 b ∧ ρ 3 = .int .i64 P.length ∧ ∃ i : Nat, ρ 10 = .int .i64 i ∧ i ≤ P.length ∧ St h0 h' (ownA zEnc 1 3 (.slice A n c) (L ++ ((Q.take i ++ P.drop i) ++ (M ++ ((P.take i ++ Q.drop i) ++ R)))) :: l)) (fun ρ _ => P.length - (iv (ρ 10)).toNat) ?_ ?_
  · (try simp (maxSteps := 1000000) (disch := first | omega | assumption | exact Nat.le_of_ble_eq_true rfl) only [go_sem, ↓mwp_block, simprocAttr])
    exact ⟨0, rfl, by omega, by simpa using S⟩
  · clear S
    rintro ρ h J hJ ⟨e0, e1, e2, e3, i, e10, hi, S⟩
    (try simp (maxSteps := 1000000) (disch := first | omega | assumption | exact Nat.le_of_ble_eq_true rfl) only [go_sem, ↓mwp_block, simprocAttr, e10, e3])
    refine cond_dec (fun hlt => ?_) (fun hlt => ?_)
    · have hiP : i < P.length := by omega
      have hiQ : i < Q.length := by omega
      have hD : L ++ ((Q.take i ++ P.drop i) ++ (M ++ ((P.take i ++ Q.drop i) ++ R))) = (L ++ Q.take i) ++ P[i] :: ((P.drop (i + 1) ++ M ++ P.take i) ++ Q[i] :: (Q.drop (i + 1) ++ R)) := by
        rw [List.drop_eq_getElem_cons hiP, List.drop_eq_getElem_cons hiQ]
        simp only [List.append_assoc, List.cons_append, List.nil_append]
      have hD2 : (L ++ Q.take i) ++ Q[i] :: ((P.drop (i + 1) ++ M ++ P.take i) ++ P[i] :: (Q.drop (i + 1) ++ R)) = L ++ ((Q.take (i + 1) ++ P.drop (i + 1)) ++ (M ++ ((P.take (i + 1) ++ Q.drop (i + 1)) ++ R))) := by
        rw [List.take_succ_eq_append_getElem hiP, List.take_succ_eq_append_getElem hiQ]
        simp only [List.append_assoc, List.cons_append, List.nil_append]
      have hl1 : (L ++ Q.take i).length = a + i := by rw [List.length_append, List.length_take]; omega
      have hl2 : (L ++ Q.take i).length + 1 + (P.drop (i + 1) ++ M ++ P.take i).length = b + i := by simp only [List.length_append, List.length_take, List.length_drop]; omega
      obtain ⟨g1, g2, g3, _⟩ := swap_list (L ++ Q.take i) (P.drop (i + 1) ++ M ++ P.take i) (Q.drop (i + 1) ++ R) P[i] Q[i]
      rw [hD] at S
      obtain ⟨bk, rfl⟩ := S.ownAt (by simp only [List.length_append, List.length_cons]; omega)
      have r1 := own_rd S g1
      have r2 := own_rd S g2
      rw [hl2] at r2 g3
      rw [hl1] at r1 g3
      have w1 := addI (a := a) (b := i) rfl (by omega)
      have w2 := addI (a := b) (b := i) rfl (by omega)
      (try simp (maxSteps := 1000000) (disch := first | omega | assumption | exact Nat.le_of_ble_eq_true rfl) only [go_sem, ↓mwp_block, simprocAttr])
      refine draw_eq ?_
      (try simp (maxSteps := 1000000) (disch := first | omega | assumption | exact Nat.le_of_ble_eq_true rfl) only [go_sem, ↓mwp_block, simprocAttr, e0, e1, e2, e10, w1, w2, r1, r2])
      refine st_setOwn (i := a + i) (x := Q[i]) zEnc_len S (by rw [← hl1]; simp only [List.length_append, List.length_cons]; omega) rfl rfl rfl rfl ?_
      clear S r1 r2
      intro h S
      (try simp (maxSteps := 1000000) (disch := first | omega | assumption | exact Nat.le_of_ble_eq_true rfl) only [go_sem, ↓mwp_block, simprocAttr])
      refine st_setOwn (i := b + i) (x := P[i]) zEnc_len S (by rw [List.length_set, ← hl2]; simp only [List.length_append, List.length_cons]; omega) rfl rfl rfl rfl ?_
      clear S
      intro h S
      rw [g3, hD2] at S
      (try simp (maxSteps := 1000000) (disch := first | omega | assumption | exact Nat.le_of_ble_eq_true rfl) only [go_sem, ↓mwp_block, simprocAttr, e10])
      refine hJ _ _ ?_ ?_
      · (try simp (maxSteps := 1000000) (disch := first | omega | assumption | exact Nat.le_of_ble_eq_true rfl) only [go_sem, ↓mwp_block, simprocAttr, e0, e1, e2, e3])
        exact ⟨i + 1, rfl, by omega, S⟩
      · (try simp (maxSteps := 1000000) (disch := first | omega | assumption | exact Nat.le_of_ble_eq_true rfl) only [go_sem, ↓mwp_block, simprocAttr, e10])
        omega
    · obtain rfl : i = P.length := by omega
      (try simp (maxSteps := 1000000) (disch := first | omega | assumption | exact Nat.le_of_ble_eq_true rfl) only [go_sem, ↓mwp_block, simprocAttr])
      refine hK _ _ ?_
      rw [List.take_length, List.drop_length, hPQ, List.take_length, List.drop_length] at S
      simpa using S
end
end Go.Proofs.Ytblalmgahfbalaa.MX

/- The library's sort, part 2: a rotation. -/
namespace Go.Proofs.Ytblalmgahfbalaa.MX
open Go Go.Proofs
set_option linter.unusedSimpArgs false
set_option linter.unusedVariables false
set_option maxHeartbeats 4000000
section
variable {h0 h : Heap} {l : List HP}
theorem rotate_ok {A : Option Addr} {c : Nat} {fv : Value} (L X Y R : List Int) {n a m b : Nat} (hn : n = (L ++ (X ++ (Y ++ R))).length) (ha : a = L.length) (hm : m = L.length + X.length) (hb : b = m + Y.length) (hX : 0 < X.length) (hY : 0 < Y.length) (hs : n < 1000000)
    (S : St h0 h (ownA zEnc 1 3 (.slice A n c) (L ++ (X ++ (Y ++ R))) :: l)) :
    CallsH Try.prog 93 [.slice A n c, .int .i64 a, .int .i64 m, .int .i64 b, fv] h fun v h' => St h0 h' (ownA zEnc 1 3 (.slice A n c) (L ++ (Y ++ (X ++ R))) :: l) := by
  have hnl : n = L.length + (X.length + (Y.length + R.length)) := by rw [hn]; simp only [List.length_append]
  have w1 := subI (a := m) (b := a) (c := X.length) (by omega) (by omega)
  have w2 := subI (a := b) (b := m) (c := Y.length) (by omega) (by omega)
  refine enterK c_slices_rotateCmpFunc_int (Nat.le_of_ble_eq_true rfl) fun K hK => ?_
  (try simp (maxSteps := 1000000) (disch := first | omega | assumption | exact Nat.le_of_ble_eq_true rfl) only [go_sem, ↓mwp_block, simprocAttr, ir_slices_rotateCmpFunc_int, w1, w2])
  refine loop_intro (fun ρ h' => ρ 0 = .slice A n c ∧ ρ 2 = .int .i64 m ∧ ρ 4 = fv ∧ ∃ L' P Q R' : List Int, ρ 10 = .int .i64 P.length ∧ ρ 11 = .int .i64 Q.length ∧ 0 < P.length ∧ 0 < Q.length ∧ m = L'.length + P.length ∧ n = (L' ++ (P ++ (Q ++ R'))).length ∧ L' ++ (Q ++ (P ++ R')) = L ++ (Y ++ (X ++ R)) ∧ St h0 h' (ownA zEnc 1 3 (.slice A n c) (L' ++ (P ++ (Q ++ R'))) :: l)) (fun ρ _ => (iv (ρ 10)).toNat + (iv (ρ 11)).toNat) ?_ ?_
  · (try simp (maxSteps := 1000000) (disch := first | omega | assumption | exact Nat.le_of_ble_eq_true rfl) only [go_sem, ↓mwp_block, simprocAttr])
    exact ⟨L, X, Y, R, rfl, rfl, hX, hY, hm, hn, rfl, S⟩
  · clear S w1 w2
    rintro ρ h J hJ ⟨e0, e2, e4, L', P, Q, R', e10, e11, hP, hQ, hm', hn', ht, S⟩
    have hnl' : n = L'.length + (P.length + (Q.length + R'.length)) := by rw [hn']; simp only [List.length_append]
    have w1 := subI (a := m) (b := P.length) (c := L'.length) (by omega) (by omega)
    by_cases heq : (P.length : Int) = Q.length
    case neg =>
      (try simp (maxSteps := 1000000) (disch := first | omega | assumption | exact Nat.le_of_ble_eq_true rfl) only [go_sem, ↓mwp_block, simprocAttr, e10, e11, heq])
      by_cases hgt : (Q.length : Int) < P.length
      · have w2 := subI (a := P.length) (b := Q.length) (c := P.length - Q.length) (by omega) (by omega)
        have hsp : P = P.take Q.length ++ P.drop Q.length := (List.take_append_drop _ _).symm
        have hl1 : (P.take Q.length).length = Q.length := by rw [List.length_take]; omega
        have hl2 : (P.drop Q.length).length = P.length - Q.length := List.length_drop
        (try simp (maxSteps := 1000000) (disch := first | omega | assumption | exact Nat.le_of_ble_eq_true rfl) only [go_sem, ↓mwp_block, simprocAttr, e0, e2, e4, e10, e11, hgt, w1])
        rw [← hl2] at w2
        generalize P.take Q.length = P1 at hsp hl1
        generalize P.drop Q.length = P2 at hsp hl2 w2
        subst hsp
        rw [List.append_assoc] at S
        refine call_intro (swapRange_ok L' P1 P2 Q R' hl1 (by rw [hn', List.append_assoc]) rfl (by rw [hm', List.length_append]; omega) hs hl1.symm S) ?_
        clear S
        intro _ h S
        (try simp (maxSteps := 1000000) (disch := first | omega | assumption | exact Nat.le_of_ble_eq_true rfl) only [go_sem, ↓mwp_block, simprocAttr, e10, e11, w2])
        refine hJ _ _ ?_ ?_
        · (try simp (maxSteps := 1000000) (disch := first | omega | assumption | exact Nat.le_of_ble_eq_true rfl) only [go_sem, ↓mwp_block, simprocAttr, e0, e2, e4])
          refine ⟨L' ++ Q, P2, P1, R', rfl, by rw [hl1, e11], by simp only [List.length_append] at *; omega, by omega, by simp only [List.length_append] at *; omega, by simp only [List.length_append] at *; omega, ?_, ?_⟩
          · rw [← ht]; simp only [List.append_assoc]
          · rw [List.append_assoc]; exact S
        · (try simp (maxSteps := 1000000) (disch := first | omega | assumption | exact Nat.le_of_ble_eq_true rfl) only [go_sem, ↓mwp_block, simprocAttr, e10, e11])
          simp only [List.length_append] at *
          omega
      · have hlt : P.length < Q.length := by omega
        have w2 := subI (a := Q.length) (b := P.length) (c := Q.length - P.length) (by omega) (by omega)
        have w3 := addI (a := m) (b := Q.length) rfl (by omega)
        have w4 := subI (a := m + Q.length) (b := P.length) (c := m + (Q.length - P.length)) (by omega) (by omega)
        have hsp : Q = Q.take (Q.length - P.length) ++ Q.drop (Q.length - P.length) := (List.take_append_drop _ _).symm
        have hl1 : (Q.take (Q.length - P.length)).length = Q.length - P.length := by rw [List.length_take]; omega
        have hl2 : (Q.drop (Q.length - P.length)).length = P.length := by rw [List.length_drop]; omega
        (try simp (maxSteps := 1000000) (disch := first | omega | assumption | exact Nat.le_of_ble_eq_true rfl) only [go_sem, ↓mwp_block, simprocAttr, e0, e2, e4, e10, e11, hgt, w1, w3, w4])
        rw [← hl1] at w2
        generalize hQ1 : Q.take (Q.length - P.length) = Q1 at hsp hl1 w2
        generalize hQ2 : Q.drop (Q.length - P.length) = Q2 at hsp hl2
        have hbl : m + (Q.length - P.length) = L'.length + P.length + Q1.length := by omega
        rw [hbl]
        have S2 := S
        rw [hsp, List.append_assoc] at S2
        refine call_intro (swapRange_ok L' P Q1 Q2 R' hl2.symm (by rw [hn', hsp, List.append_assoc]) rfl rfl hs rfl S2) ?_
        clear S S2
        intro _ h S
        (try simp (maxSteps := 1000000) (disch := first | omega | assumption | exact Nat.le_of_ble_eq_true rfl) only [go_sem, ↓mwp_block, simprocAttr, e10, e11, w2])
        refine hJ _ _ ?_ ?_
        · (try simp (maxSteps := 1000000) (disch := first | omega | assumption | exact Nat.le_of_ble_eq_true rfl) only [go_sem, ↓mwp_block, simprocAttr, e0, e2, e4, e10])
          refine ⟨L', Q2, Q1, P ++ R', by rw [hl2], rfl, by omega, by omega, by omega, by simp only [List.length_append] at *; omega, ?_, S⟩
          rw [← ht, hsp]; simp only [List.append_assoc]
        · (try simp (maxSteps := 1000000) (disch := first | omega | assumption | exact Nat.le_of_ble_eq_true rfl) only [go_sem, ↓mwp_block, simprocAttr, e10, e11])
          omega
    case pos =>
      have heq' : P.length = Q.length := by omega
      have hd := dcd_true heq
      (try simp (maxSteps := 1000000) (disch := first | omega | assumption | exact Nat.le_of_ble_eq_true rfl) only [go_sem, ↓mwp_block, simprocAttr, e0, e2, e4, e10, e11, hd, w1, Bool.not_true])
      have S0 : St h0 h (ownA zEnc 1 3 (.slice A n c) (L' ++ (P ++ ([] ++ (Q ++ R')))) :: l) := S
      have hc := swapRange_ok (fv := fv) L' P [] Q R' heq' hn' rfl (show m = L'.length + P.length + 0 from hm') hs rfl S0
      refine call_intro hc ?_
      clear S
      intro _ h S
      (try simp (maxSteps := 1000000) (disch := first | omega | assumption | exact Nat.le_of_ble_eq_true rfl) only [go_sem, ↓mwp_block, simprocAttr])
      rw [List.nil_append, ht] at S
      exact hK _ _ S
end
end Go.Proofs.Ytblalmgahfbalaa.MX
