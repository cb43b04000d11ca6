/- Texts in one file: Sp12, MXY, Sp13, Sp14, Sp15, Sp16. -/
import Derived.Test.YtblalmgahfbalaaGreatK15
import Derived.Test.YtblalmgahfbalaaGreatK09

/- The document's division, bit by bit. -/
namespace Go.Proofs.YtblalmgahfbalaaGreat.MX
open Go Go.Proofs
set_option linter.unusedSimpArgs false
set_option linter.unusedVariables false
set_option maxHeartbeats 4000000
theorem more_ok (rest x of q : Nat) (h1 : rest < of) (h2 : x ≤ of) (h3 : of < 9223372036854775808) (h4 : q < 18446744073709551615) (h : Heap) :
    CallsH Tryz.prog 74 [.int .u64 rest, .int .u64 x, .int .u64 of, .int .u64 q] h fun v h' => (∃ r' q' : Nat, v = .tuple #[.int .u64 r', .int .u64 q'] ∧ q' * of + r' = q * of + rest + x ∧ r' < of ∧ q ≤ q' ∧ q' ≤ q + 1) ∧ h' = h := by
  have s1 := subE (a := of) (b := rest) (c := of - rest) (by omega) (by omega)
  by_cases c1 : ((of - rest : Nat) : Int) ≤ x
  · have s2 := subE (a := x) (b := of - rest) (c := x - (of - rest)) (by omega) (by omega)
    have s3 : binV .add (.int .u64 q) (.int .u64 1) = some (.int .u64 ((q + 1 : Nat) : Int)) := addE (a := q) (b := 1) rfl (by omega)
    refine enterK c_recoupref05_more (Nat.le_of_ble_eq_true rfl) fun K hK => ?_
    (try simp (maxSteps := 1000000) (disch := first | omega | assumption | exact Nat.le_of_ble_eq_true rfl) only [go_sem, ↓mwp_block, simprocAttr, ir_recoupref05_more, s1, s2, s3, c1])
    exact hK _ _ ⟨⟨_, _, rfl, by rw [Nat.succ_mul]; omega, by omega, by omega, by omega⟩, rfl⟩
  · have s2 := addE (a := rest) (b := x) rfl (by omega)
    refine enterK c_recoupref05_more (Nat.le_of_ble_eq_true rfl) fun K hK => ?_
    (try simp (maxSteps := 1000000) (disch := first | omega | assumption | exact Nat.le_of_ble_eq_true rfl) only [go_sem, ↓mwp_block, simprocAttr, ir_recoupref05_more, s1, s2, c1])
    exact hK _ _ ⟨⟨_, _, rfl, by omega, by omega, by omega, by omega⟩, rfl⟩
theorem andI1 {a : Nat} (ha : a < 9223372036854775808) : binV .and (.int .i64 a) (.int .i64 1) = some (.int .i64 ((a % 2 : Nat) : Int)) := by
  rw [bin_and]
  have e1 : BitVec.ofInt IntKind.i64.bits (a : Int) = BitVec.ofNat 64 a := BitVec.ofInt_natCast 64 a
  have e2 : BitVec.ofInt IntKind.i64.bits (1 : Int) = BitVec.ofNat 64 1 := BitVec.ofInt_natCast 64 1
  have e : (BitVec.ofNat 64 a &&& BitVec.ofNat 64 1).toNat = a % 2 := by
    rw [BitVec.toNat_and, BitVec.toNat_ofNat, BitVec.toNat_ofNat, Nat.mod_eq_of_lt (by omega), Nat.mod_eq_of_lt (by decide)]
    exact Nat.and_one_is_mod a
  rw [e1, e2]
  exact (congrArg (fun n : Nat => some (Value.int IntKind.i64 (IntKind.i64.wrap (n : Int)))) e).trans (by rw [i64N (by omega)])
theorem shrI {a k : Nat} (hk : k ≤ 64) : binV .shr (.int .i64 a) (.int .u64 k) = some (.int .i64 ((a / 2 ^ k : Nat) : Int)) := by
  rw [bin_shr (by omega), Int.toNat_natCast, show IntKind.i64.bits = 64 from rfl, Nat.min_eq_left hk, Int.fdiv_eq_ediv_of_nonneg _ (Int.le_of_lt (Int.pow_pos (by decide)))]
  simp
theorem half_pow (a k : Nat) : a / 2 ^ k = 2 * (a / 2 ^ (k + 1)) + (a / 2 ^ k) % 2 := by
  rw [Nat.pow_succ, ← Nat.div_div_eq_div_mul]
  omega
theorem divided_ok (a n of : Nat) (ha : a ≤ 1125899906842624) (hn : n ≤ of) (h0 : 0 < of) (hof : of ≤ 1125899906842624) (h : Heap) :
    CallsH Tryz.prog 52 [.int .i64 a, .int .i64 n, .int .i64 of] h fun v h' => v = .tuple #[.int .i64 (a * n / of : Nat), .int .u64 (a * n % of : Nat)] ∧ h' = h := by
  have wo := wrapU (n := of) (by omega)
  have wn := wrapU (n := n) (by omega)
  (refine enterK c_recoupref05_divided (Nat.le_of_ble_eq_true rfl) fun K hK => ?_; (try simp (maxSteps := 1000000) (disch := first | omega | assumption | exact Nat.le_of_ble_eq_true rfl) only [go_sem, ↓mwp_block, simprocAttr, ir_recoupref05_divided]))
  refine loop_intro (fun ρ h' => h' = h ∧ ρ 0 = .int .i64 a ∧ ρ 1 = .int .i64 n ∧ ρ 2 = .int .i64 of ∧ ∃ k q r : Nat, ρ 10 = .int .i64 ((k : Int) - 1) ∧ k ≤ 51 ∧ ρ 8 = .int .u64 q ∧ ρ 9 = .int .u64 r ∧ q * of + r = a / 2 ^ k * n ∧ r < of) (fun ρ _ => ((iv (ρ 10)) + 1).toNat) ?_ ?_
  · (try simp (maxSteps := 1000000) (disch := first | omega | assumption | exact Nat.le_of_ble_eq_true rfl) only [go_sem, ↓mwp_block, simprocAttr])
    refine ⟨51, 0, 0, rfl, by omega, rfl, rfl, ?_, h0⟩
    rw [Nat.div_eq_of_lt (by omega)]; simp
  rintro ρ h' J hJ ⟨rfl, e0, e1, e2, k, q, r, e10, hk, e8, e9, hqr, hr⟩
  have hq : q ≤ 1125899906842624 := by
    have h1 : q * of ≤ a / 2 ^ k * of := Nat.le_trans (by omega) (Nat.mul_le_mul_left _ hn)
    have h2 := Nat.le_of_mul_le_mul_right h1 h0
    have h3 := Nat.div_le_self a (2 ^ k)
    omega
  by_cases hk0 : (0 : Int) ≤ (k : Int) - 1
  · obtain ⟨k, rfl⟩ : ∃ j, k = j + 1 := ⟨k - 1, by omega⟩
    have ek : ((k + 1 : Nat) : Int) - 1 = (k : Int) := by omega
    rw [ek] at e10
    have wk := wrapU (n := k) (by omega)
    have hk0' : (0 : Int) ≤ k := by omega
    have m1 : binV .mul (.int .u64 q) (.int .u64 2) = some (.int .u64 ((q * 2 : Nat) : Int)) := mulE (a := q) (b := 2) rfl (by omega)
    have hsh := shrI (a := a) (k := k) (by omega)
    have hle := Nat.div_le_self a (2 ^ k)
    have han := andI1 (a := a / 2 ^ k) (by omega)
    have wk1 : IntKind.i64.wrap ((k : Int) - 1) = (k : Int) - 1 := wrap_i64 (by omega) (by omega)
    have hhalf := half_pow a k
    (try simp (maxSteps := 1000000) (disch := first | omega | assumption | exact Nat.le_of_ble_eq_true rfl) only [go_sem, ↓mwp_block, simprocAttr, e10, hk0', e8, e9, e2, m1, wo])
    refine call_intro (more_ok r r of (q * 2) hr (by omega) (by omega) (by omega) _) ?_
    rintro _ _ ⟨⟨r1, q1, rfl, hq1, hr1, hq1a, hq1b⟩, rfl⟩
    have hq2 : q1 * of + r1 = 2 * (a / 2 ^ (k + 1)) * n := by
      rw [hq1, Nat.mul_right_comm, Nat.mul_assoc 2, ← hqr]
      omega
    by_cases hb : ((a / 2 ^ k % 2 : Nat) : Int) = 1
    · (try simp (maxSteps := 1000000) (disch := first | omega | assumption | exact Nat.le_of_ble_eq_true rfl) only [go_sem, ↓mwp_block, simprocAttr, e0, e10, wk, hsh, han, hb, e1, e2, wn, wo])
      refine call_intro (more_ok r1 n of q1 hr1 hn (by omega) (by omega) _) ?_
      rintro _ _ ⟨⟨r2, q2, rfl, hq3, hr2, hq3a, hq3b⟩, rfl⟩
      (try simp (maxSteps := 1000000) (disch := first | omega | assumption | exact Nat.le_of_ble_eq_true rfl) only [go_sem, ↓mwp_block, simprocAttr, e10, wk1])
      refine hJ _ _ ?_ ?_
      · (try simp (maxSteps := 1000000) (disch := first | omega | assumption | exact Nat.le_of_ble_eq_true rfl) only [go_sem, ↓mwp_block, simprocAttr, e0, e1, e2])
        refine ⟨k, q2, r2, rfl, by omega, rfl, rfl, ?_, hr2⟩
        rw [hhalf, show a / 2 ^ k % 2 = 1 by omega, Nat.add_mul, Nat.one_mul, ← hq2, hq3]
      · (try simp (maxSteps := 1000000) (disch := first | omega | assumption | exact Nat.le_of_ble_eq_true rfl) only [go_sem, ↓mwp_block, simprocAttr, e10])
        omega
    · (try simp (maxSteps := 1000000) (disch := first | omega | assumption | exact Nat.le_of_ble_eq_true rfl) only [go_sem, ↓mwp_block, simprocAttr, e0, e10, wk, hsh, han, hb, wk1])
      refine hJ _ _ ?_ ?_
      · (try simp (maxSteps := 1000000) (disch := first | omega | assumption | exact Nat.le_of_ble_eq_true rfl) only [go_sem, ↓mwp_block, simprocAttr, e0, e1, e2])
        refine ⟨k, q1, r1, rfl, by omega, rfl, rfl, ?_, hr1⟩
        rw [hhalf, show a / 2 ^ k % 2 = 0 by omega, Nat.add_zero, ← hq2]
      · (try simp (maxSteps := 1000000) (disch := first | omega | assumption | exact Nat.le_of_ble_eq_true rfl) only [go_sem, ↓mwp_block, simprocAttr, e10])
        omega
  · obtain rfl : k = 0 := by omega
    rw [Nat.pow_zero, Nat.div_one] at hqr
    have hd : a * n / of = q ∧ a * n % of = r := by
      rw [← hqr, Nat.mul_comm q]
      exact ⟨by rw [Nat.mul_add_div h0, Nat.div_eq_of_lt hr, Nat.add_zero], by rw [Nat.mul_add_mod, Nat.mod_eq_of_lt hr]⟩
    have wq := i64N (n := q) (by omega)
    (try simp (maxSteps := 1000000) (disch := first | omega | assumption | exact Nat.le_of_ble_eq_true rfl) only [go_sem, ↓mwp_block, simprocAttr, e10, hk0, e8, e9, wq])
    exact hK _ _ ⟨by rw [hd.1, hd.2], rfl⟩
end Go.Proofs.YtblalmgahfbalaaGreat.MX

/- Slices that are made. -/
namespace Go.Proofs.YtblalmgahfbalaaGreat.MX
open Go Go.Proofs
set_option linter.unusedSimpArgs false
set_option linter.unusedVariables false
theorem zeros_flat {α : Type} {enc : α → List Value} (z : List Value) (x : α) (hz : enc x = z) : ∀ n, zerosL z n = (List.replicate n x).flatMap enc
  | 0 => rfl
  | n + 1 => by rw [List.replicate_succ, List.flatMap_cons, hz, ← zeros_flat z x hz n]; rfl
theorem st_make {α : Type} {enc : α → List Value} {sz T bytes : Nat} {z : List Value} {h0 h : Heap} {l : List HP} {K : Value → Heap → Prop} {s : Tag h} {t : Tag K} {n : Nat} (x : α) (hsz : ∀ x, (enc x).length = sz) (hz : enc x = z) (S : St h0 h l) (hn : n < 9223372036854775808) (hb : n * bytes ≤ 281474976710656)
    (hk : ∀ v h', St h0 h' (ownA enc sz T v (List.replicate n x) :: l) → K v h') : mkT T bytes z (.int .i64 n) (.int .i64 n) h K s t := by
  refine ⟨⟨by omega, Int.le_refl _, by omega, by rw [← Int.natCast_mul]; exact Int.ofNat_le.2 hb⟩, ?_⟩
  rw [Int.toNat_natCast, zeros_flat z x hz]
  refine hk _ _ (S.ownNew ((Fr.refl _ _).push _) (.inr ⟨h.size, n, [], by rw [List.length_replicate], Nat.le_refl _, by rw [List.length_replicate]; exact Nat.le_refl _, hn, ?_, ?_⟩))
  · rw [List.append_nil]
    exact blk_push_new rfl
  · rw [List.append_nil, flat_length hsz, List.length_replicate]
end Go.Proofs.YtblalmgahfbalaaGreat.MX

/- Slices that are made. -/
namespace Go.Proofs.YtblalmgahfbalaaGreat.MX
open Go Go.Proofs
set_option linter.unusedSimpArgs false
set_option linter.unusedVariables false
end Go.Proofs.YtblalmgahfbalaaGreat.MX

/- Split: the plain law of quotients and rests. -/
namespace Go.Proofs.YtblalmgahfbalaaGreat.MX
open Go Go.Proofs
set_option linter.unusedSimpArgs false
set_option linter.unusedVariables false
def quoW (sum all : Nat) (ws : List Nat) : List Nat := ws.map fun w => sum * w / all
def restW (sum all : Nat) (ws : List Nat) : List Nat := ws.map fun w => sum * w % all
theorem quo_rest (sum all : Nat) (ws : List Nat) : sum * ws.sum = (quoW sum all ws).sum * all + (restW sum all ws).sum := by
  induction ws with
  | nil => simp [quoW, restW]
  | cons w ws ih =>
    simp only [quoW, restW, List.map_cons, List.sum_cons] at ih ⊢
    have h := Nat.div_add_mod (sum * w) all
    rw [Nat.mul_comm all] at h
    rw [Nat.mul_add, ih, Nat.add_mul]
    omega
theorem rest_lt (sum : Nat) {all : Nat} (h : 0 < all) (ws : List Nat) : (restW sum all ws).sum + ws.length ≤ ws.length * all := by
  induction ws with
  | nil => simp [restW]
  | cons w ws ih =>
    simp only [restW, List.map_cons, List.sum_cons, List.length_cons] at ih ⊢
    have h1 := Nat.mod_lt (sum * w) h
    rw [Nat.succ_mul]
    omega
/-- What is left over is no more than there are. -/
theorem left_law {sum all : Nat} {ws : List Nat} (h : 0 < all) (he : ws.sum = all) : (quoW sum all ws).sum ≤ sum ∧ sum - (quoW sum all ws).sum ≤ ws.length := by
  have h1 := quo_rest sum all ws
  have h2 := rest_lt sum h ws
  rw [he] at h1
  have h3 : (quoW sum all ws).sum * all ≤ sum * all := by omega
  have h4 := Nat.le_of_mul_le_mul_right h3 h
  refine ⟨h4, ?_⟩
  obtain ⟨d, hd⟩ : ∃ d, sum = (quoW sum all ws).sum + d := ⟨sum - (quoW sum all ws).sum, by omega⟩
  have h5 : d * all ≤ ws.length * all := by
    rw [hd, Nat.add_mul] at h1
    rw [← hd] at h1
    omega
  have h6 := Nat.le_of_mul_le_mul_right h5 h
  omega
end Go.Proofs.YtblalmgahfbalaaGreat.MX

/- Split: the shares, where not all weights are 0. -/
namespace Go.Proofs.YtblalmgahfbalaaGreat.MX
open Go Go.Proofs
set_option linter.unusedSimpArgs false
set_option linter.unusedVariables false
set_option maxHeartbeats 8000000
def natsI (n : Nat) : List Int := (List.range n).map Int.ofNat
/-- One more for each that is named. -/
def bump (q : List Int) (Z : List Int) : List Int := Z.foldl (fun l i => l.set i.toNat (l.getD i.toNat 0 + 1)) q
/-- The shares of a sum by weights: the quotients, and one more for those with the greatest rests. -/
def IsShares (sum all : Nat) (ws : List Nat) (out : List Int) : Prop :=
  ∃ Z : List Int, Z.Perm (natsI ws.length) ∧ Z.Pairwise (Rk fun i => (restW sum all ws).getD i.toNat 0) ∧
    out = bump ((quoW sum all ws).map Int.ofNat) (Z.take (sum - (quoW sum all ws).sum))
theorem set_fill {α : Type} (T : List α) (x : α) {n i : Nat} (hn : T.length = n) (hi : i < n) : (T.take i ++ List.replicate (n - i) x).set i (T[i]'(by omega)) = T.take (i + 1) ++ List.replicate (n - (i + 1)) x := by
  have hl : (T.take i).length = i := by rw [List.length_take]; omega
  rw [List.set_append_right _ _ (by omega), hl, Nat.sub_self, show n - i = (n - (i + 1)) + 1 by omega, List.replicate_succ, List.set_cons_zero, List.take_succ_eq_append_getElem (by omega), List.append_assoc]
  rfl
theorem bump_snoc (q Z : List Int) (z : Int) : bump q (Z ++ [z]) = (bump q Z).set z.toNat ((bump q Z).getD z.toNat 0 + 1) := by simp [bump]
theorem bump_len (Z : List Int) : ∀ q : List Int, (bump q Z).length = q.length := by
  induction Z with
  | nil => intro q; rfl
  | cons z Z ih =>
    intro q
    have : bump q (z :: Z) = bump (q.set z.toNat (q.getD z.toNat 0 + 1)) Z := rfl
    rw [this, ih, List.length_set]
theorem bump_bound {M : Int} (hM : 0 ≤ M) (Z : List Int) : ∀ q : List Int, (∀ x ∈ q, 0 ≤ x ∧ x ≤ M) → ∀ x ∈ bump q Z, 0 ≤ x ∧ x ≤ M + Z.length := by
  induction Z generalizing M with
  | nil => intro q h x hx; have := h x hx; simp; omega
  | cons z Z ih =>
    intro q h x hx
    have e : bump q (z :: Z) = bump (q.set z.toNat (q.getD z.toNat 0 + 1)) Z := rfl
    rw [e] at hx
    have := ih (M := M + 1) (by omega) (q.set z.toNat (q.getD z.toNat 0 + 1)) (fun y hy => by
      rcases List.mem_or_eq_of_mem_set hy with hy | rfl
      · have := h y hy; omega
      · rw [List.getD_eq_getElem?_getD]
        cases hg : q[z.toNat]? with
        | none => simp; omega
        | some w =>
          have := h w (List.mem_of_getElem? hg)
          simp; omega) x hx
    rw [List.length_cons]
    omega
theorem le_sumN {k : Nat} : ∀ {l : List Nat}, k ∈ l → k ≤ l.sum
  | [], h => by cases h
  | x :: l, h => by
    rw [List.sum_cons]
    rcases List.mem_cons.1 h with rfl | h
    · omega
    · have := le_sumN h; omega
theorem natsI_len (n : Nat) : (natsI n).length = n := by simp [natsI]
theorem quoW_len (sum all : Nat) (ws : List Nat) : (quoW sum all ws).length = ws.length := by simp [quoW]
theorem restW_len (sum all : Nat) (ws : List Nat) : (restW sum all ws).length = ws.length := by simp [restW]
section
variable {h0 h : Heap} {l : List HP}
theorem Shares_ok {A : Option Addr} {c : Nat} (sum : Nat) (ws : List Nat) (ha : ∀ h', St h0 h' l → Arr zEnc 1 h' A (ws.map Int.ofNat)) (hask : askS sum (ws.map Int.ofNat) = 0) (hall : 0 < ws.sum) (S : St h0 h l) :
    CallsH Tryz.prog 68 [.int .i64 sum, .slice A ws.length c] h fun v h' => ∃ s out, v = .tuple #[s, .int .i64 0] ∧ IsShares sum ws.sum ws out ∧ out.length = ws.length ∧ St h0 h' (ownA zEnc 1 2 s out :: l) := by
  have hsumI : (ws.map Int.ofNat).sum = ws.sum := by
    clear ha hask hall
    induction ws with
    | nil => rfl
    | cons w ws ih => rw [List.map_cons, List.sum_cons, List.sum_cons, ih]; simp
  have hA0 : askA sum (ws.map Int.ofNat) = (ws.sum : Int) := by rw [askA, if_pos hask, hsumI]
  have hb : ws.length ≤ 200 ∧ sum ≤ 1125899906842624 ∧ ws.sum ≤ 1125899906842624 ∧ ∀ w ∈ ws, w ≤ ws.sum := by
    unfold askS at hask
    split at hask
    · cases hask
    · rename_i h1
      split at hask
      · cases hask
      · rename_i h2
        rw [hsumI] at h2
        rw [List.length_map] at h1
        refine ⟨by omega, by omega, by omega, ?_⟩
        clear h1 h2 hask ha hA0 hsumI hall
        intro w hw
        induction ws with
        | nil => cases hw
        | cons x ws ih =>
          rw [List.sum_cons]
          rcases List.mem_cons.1 hw with rfl | hw
          · omega
          · have := ih hw; omega
  obtain ⟨hb1, hb2, hb3, hb4⟩ := hb
  have hall0 : ¬ (ws.sum : Int) = 0 := by omega
  have hl := ha h S
  (refine enterK c_split_Shares (Nat.le_of_ble_eq_true rfl) fun K hK => ?_; (try simp (maxSteps := 1000000) (disch := first | omega | assumption | exact Nat.le_of_ble_eq_true rfl) only [go_sem, ↓mwp_block, simprocAttr, ir_split_Shares]))
  have hlm : ws.length = (ws.map Int.ofNat).length := (List.length_map _).symm
  rw [hlm]
  refine call_intro (asked_ok (sum : Int) hl (by rw [List.length_map]; omega)) ?_
  rintro _ _ ⟨rfl, rfl⟩
  rw [hask, hA0, List.length_map]
  clear hl
  (try simp (maxSteps := 1000000) (disch := first | omega | assumption | exact Nat.le_of_ble_eq_true rfl) only [go_sem, ↓mwp_block, simprocAttr, hall0])
  refine st_make (0 : Int) zEnc_len rfl S (by omega) (by omega) ?_
  clear S
  intro v h S
  obtain ⟨Ao, co, rfl⟩ := S.sl
  rw [List.length_replicate] at S ⊢
  (try simp (maxSteps := 1000000) (disch := first | omega | assumption | exact Nat.le_of_ble_eq_true rfl) only [go_sem, ↓mwp_block, simprocAttr])
  refine st_make (0 : Nat) uEnc_len rfl S (by omega) (by omega) ?_
  clear S
  intro v h S
  obtain ⟨Ar, cr, rfl⟩ := S.sl
  rw [List.length_replicate] at S ⊢
  (try simp (maxSteps := 1000000) (disch := first | omega | assumption | exact Nat.le_of_ble_eq_true rfl) only [go_sem, ↓mwp_block, simprocAttr])
  (refine st_alloc S ?_; clear S; intro t9 h S; (try simp only [splice_cons, splice_nil, List.set_cons_zero, List.set_cons_succ, Nat.zero_add, Nat.reduceAdd, List.cons_append, List.nil_append] at S); ((try clear F); have F := S.all; (try simp only [all_cons, all_nil, says_cell, and_true] at F)))
  (try simp (maxSteps := 1000000) (disch := first | omega | assumption | exact Nat.le_of_ble_eq_true rfl) only [go_sem, ↓mwp_block, simprocAttr])
  (refine st_store (by first | exact S | exact S.p1 | exact S.p2 | exact S.p3 | exact S.p4 | exact S.p5 | exact S.p6 | exact S.p7 | exact S.p8 | exact S.p9 | exact S.p10 | exact S.p11) (by rfl) (by rfl) (Nat.le_of_ble_eq_true rfl) ?_; clear S; intro h S; (try simp only [splice_cons, splice_nil, List.set_cons_zero, List.set_cons_succ, Nat.zero_add, Nat.reduceAdd, List.cons_append, List.nil_append] at S); ((try clear F); have F := S.all; (try simp only [all_cons, all_nil, says_cell, and_true] at F)))
  (try simp (maxSteps := 1000000) (disch := first | omega | assumption | exact Nat.le_of_ble_eq_true rfl) only [go_sem, ↓mwp_block, simprocAttr])
  refine st_make (0 : Int) zEnc_len rfl S (by omega) (by omega) ?_
  clear S F
  intro v h S
  obtain ⟨Ad, cd, rfl⟩ := S.sl
  rw [List.length_replicate] at S ⊢
  have hQl := quoW_len sum ws.sum ws
  have hRl := restW_len sum ws.sum ws
  have hNl := natsI_len ws.length
  (try simp (maxSteps := 1000000) (disch := first | omega | assumption | exact Nat.le_of_ble_eq_true rfl) only [go_sem, ↓mwp_block, simprocAttr])
  refine loop_intro (fun ρ' h' => ρ' 6 = .int .i64 ws.sum ∧ ρ' 0 = .int .i64 sum ∧ ρ' 8 = .slice Ao ws.length co ∧ ρ' 9 = .pointer (some ⟨t9, 0, none⟩) ∧ ρ' 10 = .slice Ad ws.length cd ∧ ρ' 47 = .slice A ws.length c ∧ ρ' 48 = .int .i64 ws.length ∧ ∃ i : Nat, ρ' 49 = .int .i64 i ∧ i ≤ ws.length ∧ ρ' 11 = .int .i64 ((sum : Int) - ((quoW sum ws.sum ws).take i).sum) ∧
    St h0 h' (ownA zEnc 1 3 (.slice Ad ws.length cd) ((natsI ws.length).take i ++ List.replicate (ws.length - i) 0) :: cellA t9 [.slice Ar ws.length cr] 113 :: ownA uEnc 1 114 (.slice Ar ws.length cr) ((restW sum ws.sum ws).take i ++ List.replicate (ws.length - i) 0) :: ownA zEnc 1 2 (.slice Ao ws.length co) (((quoW sum ws.sum ws).map Int.ofNat).take i ++ List.replicate (ws.length - i) 0) :: l)) (fun ρ' _ => ws.length - (iv (ρ' 49)).toNat) ?_ ?_
  · (try simp (maxSteps := 1000000) (disch := first | omega | assumption | exact Nat.le_of_ble_eq_true rfl) only [go_sem, ↓mwp_block, simprocAttr])
    exact ⟨0, rfl, by omega, by simp, by simpa using S⟩
  · clear S
    rintro ρ h J hJ ⟨e6, e0, e8, e9, e10, e47, e48, i, e49, hi, e11, S⟩
    (try simp (maxSteps := 1000000) (disch := first | omega | assumption | exact Nat.le_of_ble_eq_true rfl) only [go_sem, ↓mwp_block, simprocAttr, e48, e49])
    refine cond_dec (fun hlt => ?_) (fun hlt => ?_)
    · have hil : i < ws.length := by omega
      obtain ⟨bk, off, rfl, hr⟩ := ha h S.tl.tl.tl.tl i (by rw [List.length_map]; exact hil)
      have hr := rd1_part hr 0 (by omega)
      simp only [zEnc, List.getElem?_cons_zero, Nat.add_zero, List.getElem_map] at hr
      have hwm := hb4 _ (List.getElem_mem hil)
      generalize hw : ws[i] = w at hr hwm
      have hmul : sum * w ≤ 1125899906842624 * ws.sum := Nat.mul_le_mul hb2 hwm
      have hhi : sum * w / 18446744073709551616 < ws.sum := by
        rw [Nat.div_lt_iff_lt_mul (by decide)]
        have : 1125899906842624 * ws.sum < ws.sum * 18446744073709551616 := by rw [Nat.mul_comm]; exact Nat.mul_lt_mul_of_pos_left (by decide) hall
        omega
      have hback : sum * w / 18446744073709551616 * 18446744073709551616 + sum * w % 18446744073709551616 = sum * w := by
        rw [Nat.mul_comm (sum * w / _)]; exact Nat.div_add_mod _ _
      have ws1 := wrapU (n := sum) (by omega)
      have ww := wrapU (n := w) (by omega)
      have wa := wrapU (n := ws.sum) (by omega)
      have hqb : sum * w / ws.sum ≤ sum := by
        apply Nat.le_of_mul_le_mul_right (c := ws.sum) _ hall
        exact Nat.le_trans (Nat.div_mul_le_self _ _) (Nat.mul_le_mul_left _ hwm)
      have wq := i64N (n := sum * w / ws.sum) (by omega)
      rw [show Int.ofNat w = (w : Int) from rfl] at hr
      (try simp (maxSteps := 1000000) (disch := first | omega | assumption | exact Nat.le_of_ble_eq_true rfl) only [go_sem, ↓mwp_block, simprocAttr, e47, e49, e0, hr, ws1, ww])
      refine call_intro (Mul64_ok sum w (by omega) (by omega) _) ?_
      rintro _ _ ⟨rfl, rfl⟩
      (try simp (maxSteps := 1000000) (disch := first | omega | assumption | exact Nat.le_of_ble_eq_true rfl) only [go_sem, ↓mwp_block, simprocAttr, e6, wa])
      refine call_intro (Div64_ok _ _ _ hhi (by omega) (Nat.mod_lt _ (by decide)) _) ?_
      rintro _ _ ⟨rfl, rfl⟩
      rw [hback]
      have hrd := st_rd1 (off := 0) S.p1
      simp only [List.getElem?_cons_zero] at hrd
      have rx : ∀ K t, readT (fun h' => rd1 h' (.pointer (some ⟨t9, 0, none⟩)) = some (.slice Ar ws.length cr)) (fun h' => rd1 h' (.pointer (some ⟨t9, 0, none⟩))) K t = K (.slice Ar ws.length cr) := fun K t => readT_v _ hrd
      obtain ⟨bd, rfl⟩ := S.ownAt (by simp only [List.length_append, List.length_replicate]; omega)
      obtain ⟨br, rfl⟩ := S.p2.ownAt (by simp only [List.length_append, List.length_replicate]; omega)
      obtain ⟨bo, rfl⟩ := S.p3.ownAt (by simp only [List.length_append, List.length_replicate]; omega)
      (try simp (maxSteps := 1000000) (disch := first | omega | assumption | exact Nat.le_of_ble_eq_true rfl) only [go_sem, ↓mwp_block, simprocAttr])
      refine draw_inv (fun h' => rd1 h' (.pointer (some ⟨t9, 0, none⟩)) = some (.slice (some ⟨br, 0, none⟩) ws.length cr)) hrd ?_
      (try simp (maxSteps := 1000000) (disch := first | omega | assumption | exact Nat.le_of_ble_eq_true rfl) only [go_sem, ↓mwp_block, simprocAttr, e8, e9, e10, rx, wq])
      have hsz : ∀ {α : Type} (T : List α) (x : α), T.length = ws.length → i < (T.take i ++ List.replicate (ws.length - i) x).length := fun T x hT => by rw [List.length_append, List.length_take, List.length_replicate]; omega
      refine st_setOwn (i := i) (x := ((sum * w / ws.sum : Nat) : Int)) zEnc_len S.p3 (hsz _ _ (by rw [List.length_map, hQl])) rfl rfl rfl rfl ?_
      clear S hrd rx hr
      intro h S
      refine ⟨st_rd1 S.p2, ?_⟩
      (try simp (maxSteps := 1000000) (disch := first | omega | assumption | exact Nat.le_of_ble_eq_true rfl) only [go_sem, ↓mwp_block, simprocAttr])
      refine st_setOwn (i := i) (x := sum * w % ws.sum) uEnc_len S.p3 (hsz _ _ hRl) rfl rfl rfl rfl ?_
      clear S
      intro h S
      (try simp (maxSteps := 1000000) (disch := first | omega | assumption | exact Nat.le_of_ble_eq_true rfl) only [go_sem, ↓mwp_block, simprocAttr])
      refine st_setOwn (i := i) (x := (i : Int)) zEnc_len S.p2 (hsz _ _ hNl) rfl rfl rfl rfl ?_
      clear S
      intro h S
      have hqi : ((quoW sum ws.sum ws).map Int.ofNat)[i]'(by rw [List.length_map, hQl]; exact hil) = ((sum * w / ws.sum : Nat) : Int) := by rw [List.getElem_map]; simp only [quoW, List.getElem_map, hw]; rfl
      have hri : (restW sum ws.sum ws)[i]'(by rw [hRl]; exact hil) = sum * w % ws.sum := by simp only [restW, List.getElem_map, hw]
      have hni : (natsI ws.length)[i]'(by rw [hNl]; exact hil) = (i : Int) := by simp only [natsI, List.getElem_map, List.getElem_range]; rfl
      rw [← hni, set_fill _ _ hNl hil] at S
      have S := S.p2
      rw [← hri, set_fill _ _ hRl hil] at S
      have S := S.p3
      rw [← hqi, set_fill _ _ (by rw [List.length_map, hQl]) hil] at S
      have hqn : (quoW sum ws.sum ws)[i]'(by rw [hQl]; exact hil) = sum * w / ws.sum := by simp only [quoW, List.getElem_map, hw]
      have hts : ((quoW sum ws.sum ws).take (i + 1)).sum = ((quoW sum ws.sum ws).take i).sum + sum * w / ws.sum := by rw [List.take_succ_eq_append_getElem (by rw [hQl]; exact hil), List.sum_append, hqn]; simp
      have htl : ((quoW sum ws.sum ws).take (i + 1)).sum ≤ (quoW sum ws.sum ws).sum := by
        conv => rhs; rw [← List.take_append_drop (i + 1) (quoW sum ws.sum ws), List.sum_append]
        exact Nat.le_add_right _ _
      have hll := (left_law hall (rfl : ws.sum = ws.sum) (sum := sum)).1
      have wl : IntKind.i64.wrap ((sum : Int) - ((quoW sum ws.sum ws).take i).sum - ((sum * w / ws.sum : Nat) : Int)) = (sum : Int) - ((quoW sum ws.sum ws).take (i + 1)).sum := by
        rw [hts, wrap_i64 (by omega) (by omega)]
        omega
      (try simp (maxSteps := 1000000) (disch := first | omega | assumption | exact Nat.le_of_ble_eq_true rfl) only [go_sem, ↓mwp_block, simprocAttr, e11, e49, wl])
      refine hJ _ _ ?_ ?_
      · (try simp (maxSteps := 1000000) (disch := first | omega | assumption | exact Nat.le_of_ble_eq_true rfl) only [go_sem, ↓mwp_block, simprocAttr, e6, e0, e8, e9, e10, e47, e48])
        refine ⟨i + 1, rfl, by omega, rfl, ?_⟩
        (refine St.perm S ?_; repeat (with_reducible first | exact List.Perm.refl _ | refine pm0 ?_ | refine pm1 ?_ | refine pm2 ?_ | refine pm3 ?_ | refine pm4 ?_ | refine pm5 ?_ | refine pm6 ?_ | refine pm7 ?_ | refine pm8 ?_ | refine pm9 ?_ | refine pm10 ?_ | refine pm11 ?_ | refine pm12 ?_))
      · (try simp (maxSteps := 1000000) (disch := first | omega | assumption | exact Nat.le_of_ble_eq_true rfl) only [go_sem, ↓mwp_block, simprocAttr, e49])
        omega
    · obtain rfl : i = ws.length := by omega
      obtain ⟨hl1, hl2⟩ := left_law hall (rfl : ws.sum = ws.sum) (sum := sum)
      simp only [Nat.sub_self, List.replicate_zero, List.append_nil] at S
      rw [List.take_of_length_le (by rw [hNl]; exact Nat.le_refl _), List.take_of_length_le (by rw [hRl]; exact Nat.le_refl _), List.take_of_length_le (by rw [List.length_map, hQl]; exact Nat.le_refl _)] at S
      rw [List.take_of_length_le (by rw [hQl]; exact Nat.le_refl _)] at e11
      (try simp (maxSteps := 1000000) (disch := first | omega | assumption | exact Nat.le_of_ble_eq_true rfl) only [go_sem, ↓mwp_block, simprocAttr, e10, e9])
      have S1 : St h0 h (ownA zEnc 1 3 (.slice Ad ws.length cd) (natsI ws.length) :: cellA t9 [.slice Ar (restW sum ws.sum ws).length cr] 113 :: ownA uEnc 1 114 (.slice Ar (restW sum ws.sum ws).length cr) (restW sum ws.sum ws) :: ownA zEnc 1 2 (.slice Ao ws.length co) ((quoW sum ws.sum ws).map Int.ofNat) :: l) := by
        rw [hRl]; exact S
      refine call_intro (SortStable_ok Shares_cmp (by omega) (natsI ws.length) hNl.symm ?_ ?_ S1) ?_
      · unfold natsI
        rw [List.pairwise_map]
        exact List.pairwise_lt_range.imp fun h => Int.ofNat_lt.2 h
      · intro x hx
        simp only [natsI, List.mem_map, List.mem_range] at hx
        obtain ⟨k, hk, rfl⟩ := hx
        rw [hRl]
        exact ⟨Int.natCast_nonneg k, Int.ofNat_lt.2 hk⟩
      clear S S1
      rintro _ h ⟨Z, hz1, hz2, S⟩
      have hZl : Z.length = ws.length := by rw [hz1.length_eq, hNl]
      have hZd : ∀ z ∈ Z, 0 ≤ z ∧ z < ws.length := by
        intro z hz
        have := hz1.mem_iff.1 hz
        simp only [natsI, List.mem_map, List.mem_range] at this
        obtain ⟨k, hk, rfl⟩ := this
        exact ⟨Int.natCast_nonneg k, Int.ofNat_lt.2 hk⟩
      obtain ⟨lf, hlf⟩ : ∃ lf, sum - (quoW sum ws.sum ws).sum = lf := ⟨_, rfl⟩
      rw [show (sum : Int) - ((quoW sum ws.sum ws).sum : Nat) = (lf : Nat) by omega] at e11
      obtain ⟨_, hcd, _⟩ := S.cap
      have hqd : ∀ x ∈ (quoW sum ws.sum ws).map Int.ofNat, 0 ≤ x ∧ x ≤ (sum : Int) := by
        intro x hx
        simp only [List.mem_map] at hx
        obtain ⟨k, hk, rfl⟩ := hx
        have := le_sumN hk
        show (0 : Int) ≤ (k : Int) ∧ (k : Int) ≤ (sum : Int)
        omega
      (try simp (maxSteps := 1000000) (disch := first | omega | assumption | exact Nat.le_of_ble_eq_true rfl) only [go_sem, ↓mwp_block, simprocAttr, e10, e11, e8])
      refine loop_intro (fun ρ' h' => ρ' 8 = .slice Ao ws.length co ∧ ρ' 93 = .slice Ad lf cd ∧ ρ' 94 = .int .i64 lf ∧ ∃ j : Nat, ρ' 95 = .int .i64 j ∧ j ≤ lf ∧
        St h0 h' (ownA zEnc 1 2 (.slice Ao ws.length co) (bump ((quoW sum ws.sum ws).map Int.ofNat) (Z.take j)) :: ownA zEnc 1 3 (.slice Ad ws.length cd) Z :: l)) (fun ρ' _ => lf - (iv (ρ' 95)).toNat) ?_ ?_
      · (try simp (maxSteps := 1000000) (disch := first | omega | assumption | exact Nat.le_of_ble_eq_true rfl) only [go_sem, ↓mwp_block, simprocAttr, e8])
        refine ⟨0, rfl, by omega, ?_⟩
        exact S.p1.tl.d1.p1
      · clear S
        rintro ρ h J hJ ⟨e8, e93, e94, j, e95, hj, S⟩
        (try simp (maxSteps := 1000000) (disch := first | omega | assumption | exact Nat.le_of_ble_eq_true rfl) only [go_sem, ↓mwp_block, simprocAttr, e94, e95])
        refine cond_dec (fun hlt => ?_) (fun hlt => ?_)
        · have hjl : j < lf := by omega
          have hjZ : j < Z.length := by omega
          obtain ⟨bd, rfl⟩ := S.p1.ownAt (by omega)
          have hbl : (bump ((quoW sum ws.sum ws).map Int.ofNat) (Z.take j)).length = ws.length := by rw [bump_len, List.length_map, hQl]
          obtain ⟨bo, rfl⟩ := S.ownAt (by omega)
          have hz := own_rd S.p1 (List.getElem?_eq_getElem hjZ)
          obtain ⟨hz0, hzn⟩ := hZd _ (List.getElem_mem hjZ)
          have htk : Z.take (j + 1) = Z.take j ++ [Z[j]] := List.take_succ_eq_append_getElem hjZ
          generalize hzz : Z[j] = z at hz hz0 hzn htk
          obtain ⟨k, rfl⟩ : ∃ k : Nat, z = k := ⟨z.toNat, by omega⟩
          have hk : k < ws.length := by omega
          have ho := own_rd S (List.getElem?_eq_getElem (i := k) (by omega))
          have hbd := bump_bound (by omega) (Z.take j) _ hqd _ (List.getElem_mem (l := bump ((quoW sum ws.sum ws).map Int.ofNat) (Z.take j)) (n := k) (by omega))
          have hgd : (bump ((quoW sum ws.sum ws).map Int.ofNat) (Z.take j)).getD k 0 = (bump ((quoW sum ws.sum ws).map Int.ofNat) (Z.take j))[k]'(by omega) := by rw [List.getD_eq_getElem?_getD, List.getElem?_eq_getElem (by omega)]; rfl
          rw [List.length_take] at hbd
          generalize hx : (bump ((quoW sum ws.sum ws).map Int.ofNat) (Z.take j))[k]'(by omega) = x at ho hbd hgd
          have w1 : IntKind.i64.wrap (x + 1) = x + 1 := wrap_i64 (by omega) (by omega)
          (try simp (maxSteps := 1000000) (disch := first | omega | assumption | exact Nat.le_of_ble_eq_true rfl) only [go_sem, ↓mwp_block, simprocAttr, e93, e95, e8, hz, ho, w1])
          refine st_setOwn (i := k) (x := x + 1) zEnc_len S (by omega) rfl rfl rfl rfl ?_
          clear S
          intro h S
          (try simp (maxSteps := 1000000) (disch := first | omega | assumption | exact Nat.le_of_ble_eq_true rfl) only [go_sem, ↓mwp_block, simprocAttr, e95])
          refine hJ _ _ ?_ ?_
          · (try simp (maxSteps := 1000000) (disch := first | omega | assumption | exact Nat.le_of_ble_eq_true rfl) only [go_sem, ↓mwp_block, simprocAttr, e8, e93, e94])
            refine ⟨j + 1, rfl, by omega, ?_⟩
            rw [htk, bump_snoc, Int.toNat_natCast, hgd]
            exact S
          · (try simp (maxSteps := 1000000) (disch := first | omega | assumption | exact Nat.le_of_ble_eq_true rfl) only [go_sem, ↓mwp_block, simprocAttr, e95])
            omega
        · obtain rfl : j = lf := by omega
          (try simp (maxSteps := 1000000) (disch := first | omega | assumption | exact Nat.le_of_ble_eq_true rfl) only [go_sem, ↓mwp_block, simprocAttr, e8])
          refine hK _ _ ⟨_, _, rfl, ⟨Z, hz1, hz2, rfl⟩, ?_, ?_⟩
          · rw [bump_len, List.length_map, hQl]
          · rw [hlf]
            exact S.d1
end
end Go.Proofs.YtblalmgahfbalaaGreat.MX

/- Split: what follows of shares, in plain words. -/
namespace Go.Proofs.YtblalmgahfbalaaGreat.MX
open Go Go.Proofs
set_option linter.unusedSimpArgs false
set_option linter.unusedVariables false
theorem rk_asym {Kf : Int → Nat} {x y : Int} (h1 : Rk Kf x y) (h2 : Rk Kf y x) : False := by
  unfold Rk at h1 h2
  omega
/-- A sorted order is the only one. -/
theorem rk_unique {Kf : Int → Nat} : ∀ {Z Z' : List Int}, Z.Perm Z' → Z.Pairwise (Rk Kf) → Z'.Pairwise (Rk Kf) → Z = Z'
  | [], Z', hp, _, _ => (List.nil_perm.1 hp).symm
  | z :: Z, [], hp, _, _ => by have := hp.length_eq; simp at this
  | z :: Z, y :: Z', hp, h1, h2 => by
    rw [List.pairwise_cons] at h1 h2
    have hz : z = y := by
      rcases List.mem_cons.1 (hp.mem_iff.1 (List.mem_cons_self ..)) with h | h
      · exact h
      · rcases List.mem_cons.1 (hp.mem_iff.2 (List.mem_cons_self ..)) with h' | h'
        · exact h'.symm
        · exact (rk_asym (h1.1 _ h') (h2.1 _ h)).elim
    subst hz
    rw [rk_unique (List.perm_cons _ |>.1 hp) h1.2 h2.2]
theorem IsShares.unique {sum all : Nat} {ws : List Nat} {o1 o2 : List Int} (h1 : IsShares sum all ws o1) (h2 : IsShares sum all ws o2) : o1 = o2 := by
  obtain ⟨Z1, p1, s1, rfl⟩ := h1
  obtain ⟨Z2, p2, s2, rfl⟩ := h2
  rw [rk_unique (p1.trans p2.symm) s1 s2]
theorem bump_get (Z : List Int) : ∀ q : List Int, Z.Nodup → (∀ z ∈ Z, 0 ≤ z ∧ z < q.length) → ∀ i, i < q.length → (bump q Z).getD i 0 = q.getD i 0 + if (i : Int) ∈ Z then 1 else 0 := by
  induction Z with
  | nil => intro q _ _ i _; simp [bump]
  | cons z Z ih =>
    intro q hn hd i hi
    rw [List.nodup_cons] at hn
    have hz := hd z (by simp)
    have e : bump q (z :: Z) = bump (q.set z.toNat (q.getD z.toNat 0 + 1)) Z := rfl
    rw [e, ih _ hn.2 (fun y hy => by rw [List.length_set]; exact hd y (by simp [hy])) i (by rw [List.length_set]; exact hi)]
    by_cases hiz : z = (i : Int)
    · subst hiz
      have : (q.set (i : Int).toNat (q.getD (i : Int).toNat 0 + 1)).getD i 0 = q.getD i 0 + 1 := by
        rw [Int.toNat_natCast, List.getD_eq_getElem?_getD, List.getElem?_set_self hi]; rfl
      rw [this, if_neg hn.1, if_pos (by simp)]
      omega
    · have : (q.set z.toNat (q.getD z.toNat 0 + 1)).getD i 0 = q.getD i 0 := by
        rw [List.getD_eq_getElem?_getD, List.getElem?_set_ne (by omega), ← List.getD_eq_getElem?_getD]
      rw [this]
      have e : ((i : Int) ∈ z :: Z) ↔ ((i : Int) ∈ Z) := by
        rw [List.mem_cons]
        constructor
        · rintro (h | h)
          · exact (hiz h.symm).elim
          · exact h
        · exact .inr
      simp only [e]
theorem sum_set : ∀ (q : List Int) (k : Nat), k < q.length → (q.set k (q.getD k 0 + 1)).sum = q.sum + 1
  | [], k, h => by simp at h
  | x :: q, 0, h => by simp; omega
  | x :: q, k + 1, h => by
    have := sum_set q k (by simpa using h)
    simp only [List.set_cons_succ, List.sum_cons, List.getD_cons_succ, this]
    omega
theorem bump_sum (Z : List Int) : ∀ q : List Int, (∀ z ∈ Z, 0 ≤ z ∧ z < q.length) → (bump q Z).sum = q.sum + Z.length := by
  induction Z with
  | nil => intro q _; simp [bump]
  | cons z Z ih =>
    intro q hd
    have hz := hd z (by simp)
    have e : bump q (z :: Z) = bump (q.set z.toNat (q.getD z.toNat 0 + 1)) Z := rfl
    rw [e, ih _ (fun y hy => by rw [List.length_set]; exact hd y (by simp [hy])), sum_set q _ (by omega), List.length_cons]
    omega
theorem natsI_mem {n : Nat} {z : Int} : z ∈ natsI n ↔ 0 ≤ z ∧ z < n := by
  simp only [natsI, List.mem_map, List.mem_range]
  constructor
  · rintro ⟨k, hk, rfl⟩
    exact ⟨Int.natCast_nonneg k, Int.ofNat_lt.2 hk⟩
  · rintro ⟨h1, h2⟩
    exact ⟨z.toNat, by omega, by show ((z.toNat : Nat) : Int) = z; omega⟩
theorem natsI_nodup (n : Nat) : (natsI n).Nodup := by
  unfold natsI List.Nodup
  rw [List.pairwise_map]
  exact List.nodup_range.imp fun h e => h (Int.ofNat_inj.1 e)
theorem sumI (l : List Nat) : (l.map Int.ofNat).sum = (l.sum : Int) := by
  induction l with
  | nil => rfl
  | cons w ws ih => rw [List.map_cons, List.sum_cons, List.sum_cons, ih]; simp
/-- What shares are: they come to the sum; each is the quotient, or one more; of the same weights an earlier one has not less. -/
theorem IsShares.law {sum all : Nat} {ws : List Nat} {out : List Int} (H : IsShares sum all ws out) (hall : 0 < all) (he : ws.sum = all) :
    out.length = ws.length ∧ out.sum = sum ∧ (∀ i (hi : i < ws.length), out.getD i 0 = ((sum * ws[i] / all : Nat) : Int) ∨ out.getD i 0 = ((sum * ws[i] / all : Nat) : Int) + 1) ∧
      ∀ i k (hi : i < ws.length) (hk : k < i), ws[k] = ws[i] → out.getD k 0 = out.getD i 0 ∨ out.getD k 0 = out.getD i 0 + 1 := by
  obtain ⟨Z, hp, hs, rfl⟩ := H
  obtain ⟨hl1, hl2⟩ := left_law hall he (sum := sum)
  have hZl : Z.length = ws.length := by rw [hp.length_eq, natsI_len]
  have hql : ((quoW sum all ws).map Int.ofNat).length = ws.length := by rw [List.length_map, quoW_len]
  have hZd : ∀ z ∈ Z, 0 ≤ z ∧ z < (((quoW sum all ws).map Int.ofNat).length : Int) := fun z hz => by rw [hql]; exact natsI_mem.1 (hp.mem_iff.1 hz)
  have hZn : Z.Nodup := hp.nodup_iff.2 (natsI_nodup _)
  have htd : ∀ z ∈ Z.take (sum - (quoW sum all ws).sum), 0 ≤ z ∧ z < (((quoW sum all ws).map Int.ofNat).length : Int) := fun z hz => hZd z (List.mem_of_mem_take hz)
  have hg := bump_get _ _ (hZn.sublist (List.take_sublist (sum - (quoW sum all ws).sum) Z)) htd
  have hq : ∀ i (hi : i < ws.length), ((quoW sum all ws).map Int.ofNat).getD i 0 = ((sum * ws[i] / all : Nat) : Int) := fun i hi => by
    rw [List.getD_eq_getElem?_getD, List.getElem?_eq_getElem (by rw [hql]; exact hi)]
    simp only [quoW, List.getElem_map]
    rfl
  refine ⟨by rw [bump_len, hql], ?_, ?_, ?_⟩
  · rw [bump_sum _ _ htd, List.length_take, sumI]
    omega
  · intro i hi
    rw [hg i (by rw [hql]; exact hi), hq i hi]
    split
    · exact .inr rfl
    · exact .inl (by omega)
  · intro i k hi hk hw
    have hk' : k < ws.length := by omega
    rw [hg i (by rw [hql]; exact hi), hq i hi, hg k (by rw [hql]; exact hk'), hq k hk', hw]
    have hrk : Rk (fun i => (restW sum all ws).getD i.toNat 0) (k : Int) (i : Int) := by
      refine .inr ⟨?_, by omega⟩
      simp only [Int.toNat_natCast, restW, List.getD_eq_getElem?_getD, List.getElem?_map, List.getElem?_eq_getElem hi, List.getElem?_eq_getElem hk', hw]
    have him : ∀ j : Nat, j < ws.length → (j : Int) ∈ Z := fun j hj => hp.mem_iff.2 (natsI_mem.2 ⟨by omega, by omega⟩)
    have hkk : (i : Int) ∈ Z.take (sum - (quoW sum all ws).sum) → (k : Int) ∈ Z.take (sum - (quoW sum all ws).sum) := fun hm => by
      have hz := him k hk'
      rw [← List.take_append_drop (sum - (quoW sum all ws).sum) Z] at hz hs
      rcases List.mem_append.1 hz with hz | hz
      · exact hz
      · exact (rk_asym hrk ((List.pairwise_append.1 hs).2.2 _ hm _ hz)).elim
    by_cases c1 : (i : Int) ∈ Z.take (sum - (quoW sum all ws).sum)
    · rw [if_pos c1, if_pos (hkk c1)]
      exact .inl rfl
    · rw [if_neg c1]
      split
      · exact .inr (by omega)
      · exact .inl rfl
/-- The next of an order is the first of all that are left. -/
theorem next_of {Kf : Int → Nat} {Z : List Int} {n j : Nat} (hp : Z.Perm (natsI n)) (hs : Z.Pairwise (Rk Kf)) (hj : j < Z.length) {b : Int} (hb : 0 ≤ b ∧ b < n) (hb1 : b ∉ Z.take j) (hb2 : ∀ x : Int, 0 ≤ x → x < n → x ∉ Z.take j → x = b ∨ Rk Kf b x) : Z[j] = b := by
  have hz : Z[j] ∈ Z := List.getElem_mem hj
  have hd := natsI_mem.1 (hp.mem_iff.1 hz)
  have hZn : Z.Nodup := hp.nodup_iff.2 (natsI_nodup _)
  have hsp : Z = Z.take j ++ Z[j] :: Z.drop (j + 1) := by rw [← List.drop_eq_getElem_cons hj, List.take_append_drop]
  have hnt : Z[j] ∉ Z.take j := fun hm => by
    rw [hsp] at hZn
    exact (List.nodup_append.1 hZn).2.2 _ hm _ (List.mem_cons_self ..) rfl
  rcases hb2 _ hd.1 hd.2 hnt with h | h
  · exact h
  · have hbz := hp.mem_iff.2 (natsI_mem.2 hb)
    rw [hsp] at hbz hs
    rcases List.mem_append.1 hbz with hm | hm
    · exact (hb1 hm).elim
    · rcases List.mem_cons.1 hm with hm | hm
      · exact hm.symm
      · have := (List.pairwise_cons.1 (List.pairwise_append.1 hs).2.1).1 _ hm
        exact (rk_asym this h).elim
end Go.Proofs.YtblalmgahfbalaaGreat.MX
