/- Split: the shares, where not all weights are 0. -/
import Derived.Test.YtnjjdpeglkiifaaSp14
namespace Go.Proofs.Ytnjjdpeglkiifaa.MX
open Go Go.Proofs
set_option linter.unusedSimpArgs false
set_option linter.unusedVariables false
set_option maxHeartbeats 8000000
def natsI (n : Nat) : List Int := (List.range n).map Int.ofNat
/-- One more for each that is named. -/
def bump (q : List Int) (Z : List Int) : List Int := Z.foldl (fun l i => l.set i.toNat (l.getD i.toNat 0 + 1)) q
/-- The shares of a sum by weights: the quotients, and one more for those with the greatest rests. -/
def IsShares (sum all : Nat) (ws : List Nat) (out : List Int) : Prop :=
  ∃ Z : List Int, Z.Perm (natsI ws.length) ∧ Z.Pairwise (Rk fun i => (restW sum all ws).getD i.toNat 0) ∧
    out = bump ((quoW sum all ws).map Int.ofNat) (Z.take (sum - (quoW sum all ws).sum))
theorem set_fill {α : Type} (T : List α) (x : α) {n i : Nat} (hn : T.length = n) (hi : i < n) : (T.take i ++ List.replicate (n - i) x).set i (T[i]'(by omega)) = T.take (i + 1) ++ List.replicate (n - (i + 1)) x := by
  have hl : (T.take i).length = i := by rw [List.length_take]; omega
  rw [List.set_append_right _ _ (by omega), hl, Nat.sub_self, show n - i = (n - (i + 1)) + 1 by omega, List.replicate_succ, List.set_cons_zero, List.take_succ_eq_append_getElem (by omega), List.append_assoc]
  rfl
theorem draw_inv {P : Program} {Q : MExit → Env → Heap → Prop} {ρ : Env} {h : Heap} {l : List MOper} {s : Sch} {t1 : Tag l} {t2 : Tag s} {t3 : Tag Q} {t4 : Tag ρ} {t5 : Tag h} (I : Heap → Prop) (hI : I h) (hw : schT P I l (Q .normal) s ρ h) : drawT P l s Q ρ h t1 t2 t3 t4 t5 := ⟨I, hI, hw⟩
theorem readT_v {F : Heap → Option Value} {v : Value} {K : Value → Prop} {t : Tag K} (h : Heap) (hF : F h = some v) : readT (fun h' => F h' = some v) F K t = K v := by
  apply propext
  constructor
  · rintro ⟨u, h1, h2⟩
    have := h1 h hF
    rw [hF] at this
    cases this
    exact h2
  · exact fun hk => ⟨v, fun _ e => e, hk⟩
theorem bump_snoc (q Z : List Int) (z : Int) : bump q (Z ++ [z]) = (bump q Z).set z.toNat ((bump q Z).getD z.toNat 0 + 1) := by simp [bump]
theorem bump_len (Z : List Int) : ∀ q : List Int, (bump q Z).length = q.length := by
  induction Z with
  | nil => intro q; rfl
  | cons z Z ih =>
    intro q
    have : bump q (z :: Z) = bump (q.set z.toNat (q.getD z.toNat 0 + 1)) Z := rfl
    rw [this, ih, List.length_set]
theorem bump_bound {M : Int} (hM : 0 ≤ M) (Z : List Int) : ∀ q : List Int, (∀ x ∈ q, 0 ≤ x ∧ x ≤ M) → ∀ x ∈ bump q Z, 0 ≤ x ∧ x ≤ M + Z.length := by
  induction Z generalizing M with
  | nil => intro q h x hx; have := h x hx; simp; omega
  | cons z Z ih =>
    intro q h x hx
    have e : bump q (z :: Z) = bump (q.set z.toNat (q.getD z.toNat 0 + 1)) Z := rfl
    rw [e] at hx
    have := ih (M := M + 1) (by omega) (q.set z.toNat (q.getD z.toNat 0 + 1)) (fun y hy => by
      rcases List.mem_or_eq_of_mem_set hy with hy | rfl
      · have := h y hy; omega
      · rw [List.getD_eq_getElem?_getD]
        cases hg : q[z.toNat]? with
        | none => simp; omega
        | some w =>
          have := h w (List.mem_of_getElem? hg)
          simp; omega) x hx
    rw [List.length_cons]
    omega
theorem le_sumN {k : Nat} : ∀ {l : List Nat}, k ∈ l → k ≤ l.sum
  | [], h => by cases h
  | x :: l, h => by
    rw [List.sum_cons]
    rcases List.mem_cons.1 h with rfl | h
    · omega
    · have := le_sumN h; omega
theorem natsI_len (n : Nat) : (natsI n).length = n := by simp [natsI]
theorem quoW_len (sum all : Nat) (ws : List Nat) : (quoW sum all ws).length = ws.length := by simp [quoW]
theorem restW_len (sum all : Nat) (ws : List Nat) : (restW sum all ws).length = ws.length := by simp [restW]
section
variable {h0 h : Heap} {l : List HP}
theorem Shares_ok {A : Option Addr} {c : Nat} (sum : Nat) (ws : List Nat) (ha : ∀ h', St h0 h' l → Arr zEnc 1 h' A (ws.map Int.ofNat)) (hask : askE sum (ws.map Int.ofNat) = 0) (hall : 0 < ws.sum) (S : St h0 h l) :
    CallsH Try.prog 28 [.int .i64 sum, .slice A ws.length c] h fun v h' => ∃ s out, v = .tuple #[s, .int .i64 0] ∧ IsShares sum ws.sum ws out ∧ out.length = ws.length ∧ St h0 h' (ownA zEnc 1 2 s out :: l) := by
  have hsumI : (ws.map Int.ofNat).sum = ws.sum := by
    clear ha hask hall
    induction ws with
    | nil => rfl
    | cons w ws ih => rw [List.map_cons, List.sum_cons, List.sum_cons, ih]; simp
  have hA0 : askA sum (ws.map Int.ofNat) = (ws.sum : Int) := by rw [askA, if_pos hask, hsumI]
  have hb : ws.length ≤ 200 ∧ sum ≤ 1125899906842624 ∧ ws.sum ≤ 1125899906842624 ∧ ∀ w ∈ ws, w ≤ ws.sum := by
    unfold askE at hask
    split at hask
    · cases hask
    · rename_i h1
      split at hask
      · cases hask
      · rename_i h2
        rw [hsumI] at h2
        rw [List.length_map] at h1
        refine ⟨by omega, by omega, by omega, ?_⟩
        clear h1 h2 hask ha hA0 hsumI hall
        intro w hw
        induction ws with
        | nil => cases hw
        | cons x ws ih =>
          rw [List.sum_cons]
          rcases List.mem_cons.1 hw with rfl | hw
          · omega
          · have := ih hw; omega
  obtain ⟨hb1, hb2, hb3, hb4⟩ := hb
  have hall0 : ¬ (ws.sum : Int) = 0 := by omega
  have hl := ha h S
  (refine enterK c_split_Shares (Nat.le_of_ble_eq_true rfl) fun K hK => ?_; (try simp (maxSteps := 1000000) (disch := first | omega | assumption | exact Nat.le_of_ble_eq_true rfl) only [go_sem, ↓mwp_block, simprocAttr, ir_split_Shares]))
  have hlm : ws.length = (ws.map Int.ofNat).length := (List.length_map _).symm
  rw [hlm]
  refine call_intro (asked_ok (sum : Int) hl (by rw [List.length_map]; omega)) ?_
  rintro _ _ ⟨rfl, rfl⟩
  rw [hask, hA0, List.length_map]
  clear hl
  (try simp (maxSteps := 1000000) (disch := first | omega | assumption | exact Nat.le_of_ble_eq_true rfl) only [go_sem, ↓mwp_block, simprocAttr, hall0])
  refine st_make (0 : Int) zEnc_len rfl S (by omega) (by omega) ?_
  clear S
  intro v h S
  obtain ⟨Ao, co, rfl⟩ := S.sl
  rw [List.length_replicate] at S ⊢
  (try simp (maxSteps := 1000000) (disch := first | omega | assumption | exact Nat.le_of_ble_eq_true rfl) only [go_sem, ↓mwp_block, simprocAttr])
  refine st_make (0 : Nat) uEnc_len rfl S (by omega) (by omega) ?_
  clear S
  intro v h S
  obtain ⟨Ar, cr, rfl⟩ := S.sl
  rw [List.length_replicate] at S ⊢
  (try simp (maxSteps := 1000000) (disch := first | omega | assumption | exact Nat.le_of_ble_eq_true rfl) only [go_sem, ↓mwp_block, simprocAttr])
  (refine st_alloc S ?_; clear S; intro t9 h S; (try simp only [splice_cons, splice_nil, List.set_cons_zero, List.set_cons_succ, Nat.zero_add, Nat.reduceAdd, List.cons_append, List.nil_append] at S); ((try clear F); have F := S.all; (try simp only [all_cons, all_nil, says_cell, and_true] at F)))
  (try simp (maxSteps := 1000000) (disch := first | omega | assumption | exact Nat.le_of_ble_eq_true rfl) only [go_sem, ↓mwp_block, simprocAttr])
  (refine st_store (by first | exact S | exact S.p1 | exact S.p2 | exact S.p3 | exact S.p4 | exact S.p5 | exact S.p6 | exact S.p7 | exact S.p8 | exact S.p9 | exact S.p10 | exact S.p11) (by rfl) (by rfl) (Nat.le_of_ble_eq_true rfl) ?_; clear S; intro h S; (try simp only [splice_cons, splice_nil, List.set_cons_zero, List.set_cons_succ, Nat.zero_add, Nat.reduceAdd, List.cons_append, List.nil_append] at S); ((try clear F); have F := S.all; (try simp only [all_cons, all_nil, says_cell, and_true] at F)))
  (try simp (maxSteps := 1000000) (disch := first | omega | assumption | exact Nat.le_of_ble_eq_true rfl) only [go_sem, ↓mwp_block, simprocAttr])
  refine st_make (0 : Int) zEnc_len rfl S (by omega) (by omega) ?_
  clear S F
  intro v h S
  obtain ⟨Ad, cd, rfl⟩ := S.sl
  rw [List.length_replicate] at S ⊢
  have hQl := quoW_len sum ws.sum ws
  have hRl := restW_len sum ws.sum ws
  have hNl := natsI_len ws.length
  (try simp (maxSteps := 1000000) (disch := first | omega | assumption | exact Nat.le_of_ble_eq_true rfl) only [go_sem, ↓mwp_block, simprocAttr])
  refine loop_intro (fun ρ' h' => ρ' 6 = .int .i64 ws.sum ∧ ρ' 0 = .int .i64 sum ∧ ρ' 8 = .slice Ao ws.length co ∧ ρ' 9 = .pointer (some ⟨t9, 0, none⟩) ∧ ρ' 10 = .slice Ad ws.length cd ∧ ρ' 47 = .slice A ws.length c ∧ ρ' 48 = .int .i64 ws.length ∧ ∃ i : Nat, ρ' 49 = .int .i64 i ∧ i ≤ ws.length ∧ ρ' 11 = .int .i64 ((sum : Int) - ((quoW sum ws.sum ws).take i).sum) ∧
    St h0 h' (ownA zEnc 1 3 (.slice Ad ws.length cd) ((natsI ws.length).take i ++ List.replicate (ws.length - i) 0) :: cellA t9 [.slice Ar ws.length cr] 99 :: ownA uEnc 1 100 (.slice Ar ws.length cr) ((restW sum ws.sum ws).take i ++ List.replicate (ws.length - i) 0) :: ownA zEnc 1 2 (.slice Ao ws.length co) (((quoW sum ws.sum ws).map Int.ofNat).take i ++ List.replicate (ws.length - i) 0) :: l)) (fun ρ' _ => ws.length - (iv (ρ' 49)).toNat) ?_ ?_
  · (try simp (maxSteps := 1000000) (disch := first | omega | assumption | exact Nat.le_of_ble_eq_true rfl) only [go_sem, ↓mwp_block, simprocAttr])
    exact ⟨0, rfl, by omega, by simp, by simpa using S⟩
  · clear S
    rintro ρ h J hJ ⟨e6, e0, e8, e9, e10, e47, e48, i, e49, hi, e11, S⟩
    (try simp (maxSteps := 1000000) (disch := first | omega | assumption | exact Nat.le_of_ble_eq_true rfl) only [go_sem, ↓mwp_block, simprocAttr, e48, e49])
    refine cond_dec (fun hlt => ?_) (fun hlt => ?_)
    · have hil : i < ws.length := by omega
      obtain ⟨bk, off, rfl, hr⟩ := ha h S.tl.tl.tl.tl i (by rw [List.length_map]; exact hil)
      have hr := rd1_part hr 0 (by omega)
      simp only [zEnc, List.getElem?_cons_zero, Nat.add_zero, List.getElem_map] at hr
      have hwm := hb4 _ (List.getElem_mem hil)
      generalize hw : ws[i] = w at hr hwm
      have hmul : sum * w ≤ 1125899906842624 * ws.sum := Nat.mul_le_mul hb2 hwm
      have hhi : sum * w / 18446744073709551616 < ws.sum := by
        rw [Nat.div_lt_iff_lt_mul (by decide)]
        have : 1125899906842624 * ws.sum < ws.sum * 18446744073709551616 := by rw [Nat.mul_comm]; exact Nat.mul_lt_mul_of_pos_left (by decide) hall
        omega
      have hback : sum * w / 18446744073709551616 * 18446744073709551616 + sum * w % 18446744073709551616 = sum * w := by
        rw [Nat.mul_comm (sum * w / _)]; exact Nat.div_add_mod _ _
      have ws1 := wrapU (n := sum) (by omega)
      have ww := wrapU (n := w) (by omega)
      have wa := wrapU (n := ws.sum) (by omega)
      have hqb : sum * w / ws.sum ≤ sum := by
        apply Nat.le_of_mul_le_mul_right (c := ws.sum) _ hall
        exact Nat.le_trans (Nat.div_mul_le_self _ _) (Nat.mul_le_mul_left _ hwm)
      have wq := i64N (n := sum * w / ws.sum) (by omega)
      rw [show Int.ofNat w = (w : Int) from rfl] at hr
      (try simp (maxSteps := 1000000) (disch := first | omega | assumption | exact Nat.le_of_ble_eq_true rfl) only [go_sem, ↓mwp_block, simprocAttr, e47, e49, e0, hr, ws1, ww])
      refine call_intro (Mul64_ok sum w (by omega) (by omega) _) ?_
      rintro _ _ ⟨rfl, rfl⟩
      (try simp (maxSteps := 1000000) (disch := first | omega | assumption | exact Nat.le_of_ble_eq_true rfl) only [go_sem, ↓mwp_block, simprocAttr, e6, wa])
      refine call_intro (Div64_ok _ _ _ hhi (by omega) (Nat.mod_lt _ (by decide)) _) ?_
      rintro _ _ ⟨rfl, rfl⟩
      rw [hback]
      have hrd := st_rd1 (off := 0) S.p1
      simp only [List.getElem?_cons_zero] at hrd
      have rx : ∀ K t, readT (fun h' => rd1 h' (.pointer (some ⟨t9, 0, none⟩)) = some (.slice Ar ws.length cr)) (fun h' => rd1 h' (.pointer (some ⟨t9, 0, none⟩))) K t = K (.slice Ar ws.length cr) := fun K t => readT_v _ hrd
      obtain ⟨bd, rfl⟩ := S.ownAt (by simp only [List.length_append, List.length_replicate]; omega)
      obtain ⟨br, rfl⟩ := S.p2.ownAt (by simp only [List.length_append, List.length_replicate]; omega)
      obtain ⟨bo, rfl⟩ := S.p3.ownAt (by simp only [List.length_append, List.length_replicate]; omega)
      (try simp (maxSteps := 1000000) (disch := first | omega | assumption | exact Nat.le_of_ble_eq_true rfl) only [go_sem, ↓mwp_block, simprocAttr])
      refine draw_inv (fun h' => rd1 h' (.pointer (some ⟨t9, 0, none⟩)) = some (.slice (some ⟨br, 0, none⟩) ws.length cr)) hrd ?_
      (try simp (maxSteps := 1000000) (disch := first | omega | assumption | exact Nat.le_of_ble_eq_true rfl) only [go_sem, ↓mwp_block, simprocAttr, e8, e9, e10, rx, wq])
      have hsz : ∀ {α : Type} (T : List α) (x : α), T.length = ws.length → i < (T.take i ++ List.replicate (ws.length - i) x).length := fun T x hT => by rw [List.length_append, List.length_take, List.length_replicate]; omega
      refine st_setOwn (i := i) (x := ((sum * w / ws.sum : Nat) : Int)) zEnc_len S.p3 (hsz _ _ (by rw [List.length_map, hQl])) rfl rfl rfl rfl ?_
      clear S hrd rx hr
      intro h S
      refine ⟨st_rd1 S.p2, ?_⟩
      (try simp (maxSteps := 1000000) (disch := first | omega | assumption | exact Nat.le_of_ble_eq_true rfl) only [go_sem, ↓mwp_block, simprocAttr])
      refine st_setOwn (i := i) (x := sum * w % ws.sum) uEnc_len S.p3 (hsz _ _ hRl) rfl rfl rfl rfl ?_
      clear S
      intro h S
      (try simp (maxSteps := 1000000) (disch := first | omega | assumption | exact Nat.le_of_ble_eq_true rfl) only [go_sem, ↓mwp_block, simprocAttr])
      refine st_setOwn (i := i) (x := (i : Int)) zEnc_len S.p2 (hsz _ _ hNl) rfl rfl rfl rfl ?_
      clear S
      intro h S
      have hqi : ((quoW sum ws.sum ws).map Int.ofNat)[i]'(by rw [List.length_map, hQl]; exact hil) = ((sum * w / ws.sum : Nat) : Int) := by rw [List.getElem_map]; simp only [quoW, List.getElem_map, hw]; rfl
      have hri : (restW sum ws.sum ws)[i]'(by rw [hRl]; exact hil) = sum * w % ws.sum := by simp only [restW, List.getElem_map, hw]
      have hni : (natsI ws.length)[i]'(by rw [hNl]; exact hil) = (i : Int) := by simp only [natsI, List.getElem_map, List.getElem_range]; rfl
      rw [← hni, set_fill _ _ hNl hil] at S
      have S := S.p2
      rw [← hri, set_fill _ _ hRl hil] at S
      have S := S.p3
      rw [← hqi, set_fill _ _ (by rw [List.length_map, hQl]) hil] at S
      have hqn : (quoW sum ws.sum ws)[i]'(by rw [hQl]; exact hil) = sum * w / ws.sum := by simp only [quoW, List.getElem_map, hw]
      have hts : ((quoW sum ws.sum ws).take (i + 1)).sum = ((quoW sum ws.sum ws).take i).sum + sum * w / ws.sum := by rw [List.take_succ_eq_append_getElem (by rw [hQl]; exact hil), List.sum_append, hqn]; simp
      have htl : ((quoW sum ws.sum ws).take (i + 1)).sum ≤ (quoW sum ws.sum ws).sum := by
        conv => rhs; rw [← List.take_append_drop (i + 1) (quoW sum ws.sum ws), List.sum_append]
        exact Nat.le_add_right _ _
      have hll := (left_law hall (rfl : ws.sum = ws.sum) (sum := sum)).1
      have wl : IntKind.i64.wrap ((sum : Int) - ((quoW sum ws.sum ws).take i).sum - ((sum * w / ws.sum : Nat) : Int)) = (sum : Int) - ((quoW sum ws.sum ws).take (i + 1)).sum := by
        rw [hts, wrap_i64 (by omega) (by omega)]
        omega
      (try simp (maxSteps := 1000000) (disch := first | omega | assumption | exact Nat.le_of_ble_eq_true rfl) only [go_sem, ↓mwp_block, simprocAttr, e11, e49, wl])
      refine hJ _ _ ?_ ?_
      · (try simp (maxSteps := 1000000) (disch := first | omega | assumption | exact Nat.le_of_ble_eq_true rfl) only [go_sem, ↓mwp_block, simprocAttr, e6, e0, e8, e9, e10, e47, e48])
        refine ⟨i + 1, rfl, by omega, rfl, ?_⟩
        (refine St.perm S ?_; repeat (with_reducible first | exact List.Perm.refl _ | refine pm0 ?_ | refine pm1 ?_ | refine pm2 ?_ | refine pm3 ?_ | refine pm4 ?_ | refine pm5 ?_ | refine pm6 ?_ | refine pm7 ?_ | refine pm8 ?_ | refine pm9 ?_ | refine pm10 ?_ | refine pm11 ?_ | refine pm12 ?_))
      · (try simp (maxSteps := 1000000) (disch := first | omega | assumption | exact Nat.le_of_ble_eq_true rfl) only [go_sem, ↓mwp_block, simprocAttr, e49])
        omega
    · obtain rfl : i = ws.length := by omega
      obtain ⟨hl1, hl2⟩ := left_law hall (rfl : ws.sum = ws.sum) (sum := sum)
      simp only [Nat.sub_self, List.replicate_zero, List.append_nil] at S
      rw [List.take_of_length_le (by rw [hNl]; exact Nat.le_refl _), List.take_of_length_le (by rw [hRl]; exact Nat.le_refl _), List.take_of_length_le (by rw [List.length_map, hQl]; exact Nat.le_refl _)] at S
      rw [List.take_of_length_le (by rw [hQl]; exact Nat.le_refl _)] at e11
      (try simp (maxSteps := 1000000) (disch := first | omega | assumption | exact Nat.le_of_ble_eq_true rfl) only [go_sem, ↓mwp_block, simprocAttr, e10, e9])
      have S1 : St h0 h (ownA zEnc 1 3 (.slice Ad ws.length cd) (natsI ws.length) :: cellA t9 [.slice Ar (restW sum ws.sum ws).length cr] 99 :: ownA uEnc 1 100 (.slice Ar (restW sum ws.sum ws).length cr) (restW sum ws.sum ws) :: ownA zEnc 1 2 (.slice Ao ws.length co) ((quoW sum ws.sum ws).map Int.ofNat) :: l) := by
        rw [hRl]; exact S
      refine call_intro (SortStable_ok Shares_cmp (by omega) (natsI ws.length) hNl.symm ?_ ?_ S1) ?_
      · unfold natsI
        rw [List.pairwise_map]
        exact List.pairwise_lt_range.imp fun h => Int.ofNat_lt.2 h
      · intro x hx
        simp only [natsI, List.mem_map, List.mem_range] at hx
        obtain ⟨k, hk, rfl⟩ := hx
        rw [hRl]
        exact ⟨Int.natCast_nonneg k, Int.ofNat_lt.2 hk⟩
      clear S S1
      rintro _ h ⟨Z, hz1, hz2, S⟩
      have hZl : Z.length = ws.length := by rw [hz1.length_eq, hNl]
      have hZd : ∀ z ∈ Z, 0 ≤ z ∧ z < ws.length := by
        intro z hz
        have := hz1.mem_iff.1 hz
        simp only [natsI, List.mem_map, List.mem_range] at this
        obtain ⟨k, hk, rfl⟩ := this
        exact ⟨Int.natCast_nonneg k, Int.ofNat_lt.2 hk⟩
      obtain ⟨lf, hlf⟩ : ∃ lf, sum - (quoW sum ws.sum ws).sum = lf := ⟨_, rfl⟩
      rw [show (sum : Int) - ((quoW sum ws.sum ws).sum : Nat) = (lf : Nat) by omega] at e11
      obtain ⟨_, hcd, _⟩ := S.cap
      have hqd : ∀ x ∈ (quoW sum ws.sum ws).map Int.ofNat, 0 ≤ x ∧ x ≤ (sum : Int) := by
        intro x hx
        simp only [List.mem_map] at hx
        obtain ⟨k, hk, rfl⟩ := hx
        have := le_sumN hk
        show (0 : Int) ≤ (k : Int) ∧ (k : Int) ≤ (sum : Int)
        omega
      (try simp (maxSteps := 1000000) (disch := first | omega | assumption | exact Nat.le_of_ble_eq_true rfl) only [go_sem, ↓mwp_block, simprocAttr, e10, e11, e8])
      refine loop_intro (fun ρ' h' => ρ' 8 = .slice Ao ws.length co ∧ ρ' 93 = .slice Ad lf cd ∧ ρ' 94 = .int .i64 lf ∧ ∃ j : Nat, ρ' 95 = .int .i64 j ∧ j ≤ lf ∧
        St h0 h' (ownA zEnc 1 2 (.slice Ao ws.length co) (bump ((quoW sum ws.sum ws).map Int.ofNat) (Z.take j)) :: ownA zEnc 1 3 (.slice Ad ws.length cd) Z :: l)) (fun ρ' _ => lf - (iv (ρ' 95)).toNat) ?_ ?_
      · (try simp (maxSteps := 1000000) (disch := first | omega | assumption | exact Nat.le_of_ble_eq_true rfl) only [go_sem, ↓mwp_block, simprocAttr, e8])
        refine ⟨0, rfl, by omega, ?_⟩
        exact S.p1.tl.d1.p1
      · clear S
        rintro ρ h J hJ ⟨e8, e93, e94, j, e95, hj, S⟩
        (try simp (maxSteps := 1000000) (disch := first | omega | assumption | exact Nat.le_of_ble_eq_true rfl) only [go_sem, ↓mwp_block, simprocAttr, e94, e95])
        refine cond_dec (fun hlt => ?_) (fun hlt => ?_)
        · have hjl : j < lf := by omega
          have hjZ : j < Z.length := by omega
          obtain ⟨bd, rfl⟩ := S.p1.ownAt (by omega)
          have hbl : (bump ((quoW sum ws.sum ws).map Int.ofNat) (Z.take j)).length = ws.length := by rw [bump_len, List.length_map, hQl]
          obtain ⟨bo, rfl⟩ := S.ownAt (by omega)
          have hz := own_rd S.p1 (List.getElem?_eq_getElem hjZ)
          obtain ⟨hz0, hzn⟩ := hZd _ (List.getElem_mem hjZ)
          have htk : Z.take (j + 1) = Z.take j ++ [Z[j]] := List.take_succ_eq_append_getElem hjZ
          generalize hzz : Z[j] = z at hz hz0 hzn htk
          obtain ⟨k, rfl⟩ : ∃ k : Nat, z = k := ⟨z.toNat, by omega⟩
          have hk : k < ws.length := by omega
          have ho := own_rd S (List.getElem?_eq_getElem (i := k) (by omega))
          have hbd := bump_bound (by omega) (Z.take j) _ hqd _ (List.getElem_mem (l := bump ((quoW sum ws.sum ws).map Int.ofNat) (Z.take j)) (n := k) (by omega))
          have hgd : (bump ((quoW sum ws.sum ws).map Int.ofNat) (Z.take j)).getD k 0 = (bump ((quoW sum ws.sum ws).map Int.ofNat) (Z.take j))[k]'(by omega) := by rw [List.getD_eq_getElem?_getD, List.getElem?_eq_getElem (by omega)]; rfl
          rw [List.length_take] at hbd
          generalize hx : (bump ((quoW sum ws.sum ws).map Int.ofNat) (Z.take j))[k]'(by omega) = x at ho hbd hgd
          have w1 : IntKind.i64.wrap (x + 1) = x + 1 := wrap_i64 (by omega) (by omega)
          (try simp (maxSteps := 1000000) (disch := first | omega | assumption | exact Nat.le_of_ble_eq_true rfl) only [go_sem, ↓mwp_block, simprocAttr, e93, e95, e8, hz, ho, w1])
          refine st_setOwn (i := k) (x := x + 1) zEnc_len S (by omega) rfl rfl rfl rfl ?_
          clear S
          intro h S
          (try simp (maxSteps := 1000000) (disch := first | omega | assumption | exact Nat.le_of_ble_eq_true rfl) only [go_sem, ↓mwp_block, simprocAttr, e95])
          refine hJ _ _ ?_ ?_
          · (try simp (maxSteps := 1000000) (disch := first | omega | assumption | exact Nat.le_of_ble_eq_true rfl) only [go_sem, ↓mwp_block, simprocAttr, e8, e93, e94])
            refine ⟨j + 1, rfl, by omega, ?_⟩
            rw [htk, bump_snoc, Int.toNat_natCast, hgd]
            exact S
          · (try simp (maxSteps := 1000000) (disch := first | omega | assumption | exact Nat.le_of_ble_eq_true rfl) only [go_sem, ↓mwp_block, simprocAttr, e95])
            omega
        · obtain rfl : j = lf := by omega
          (try simp (maxSteps := 1000000) (disch := first | omega | assumption | exact Nat.le_of_ble_eq_true rfl) only [go_sem, ↓mwp_block, simprocAttr, e8])
          refine hK _ _ ⟨_, _, rfl, ⟨Z, hz1, hz2, rfl⟩, ?_, ?_⟩
          · rw [bump_len, List.length_map, hQl]
          · rw [hlf]
            exact S.d1
end
end Go.Proofs.Ytnjjdpeglkiifaa.MX
