/- Texts in one file: Sg2, Au2. -/
import Derived.Test.YtblalmgahfbalaaGreatK28
import Derived.Test.YtblalmgahfbalaaGreatK25

/- The saga: its returns, cloned. -/
namespace Go.Proofs.YtblalmgahfbalaaGreat.MX
open Go Go.Proofs
set_option linter.unusedSimpArgs false
set_option linter.unusedVariables false
set_option maxHeartbeats 8000000
def Ret.zero : Ret := ⟨0, 0, 0, 0, 0, false, 0, 0, [], [], 0, 0, 0, 0⟩
def zR : RetV := ⟨Ret.zero, none, 0, none, 0⟩
section
variable {h0 h : Heap} {l : List HP} {p : Nat} {D : Cfg} {u : Value} {s : Sag} {U : List Unt}
theorem CloneI_ok {A : Option Addr} {n c : Nat} {xs : List Int} (S : St h0 h l) (ha : Arr zEnc 1 h A xs) (hn : n = xs.length) (hl : xs.length < 1000000000) :
    CallsH Tryz.prog 75 [.slice A n c] h fun v h' => St h0 h' (ownA zEnc 1 3 v xs :: l) :=
  (clone_ok (T := 3) (sz := 1) (bytes := 8) c_slices_Clone_int_int zEnc_len (by omega) zEnc_plain rfl ha hn (arr_none ha) (by omega) (by omega)).mono fun v h' ⟨ho, hf, _⟩ => S.ownNew hf ho
theorem RClone_ok (x : RetV) (ha : ∀ h', St h0 h' l → Arr zEnc 1 h' x.A x.r.us) (hb : ∀ h', St h0 h' l → Arr zEnc 1 h' x.B x.r.gs) (l1 : x.r.us.length < 1000000) (l2 : x.r.gs.length < 1000000) (S : St h0 h l) :
    CallsH Tryz.prog 58 [.agg x.enc.toArray] h fun v h' => ∃ y : RetV, v = .agg y.enc.toArray ∧ y.r = x.r ∧ St h0 h' (retRow y :: l) := by
  (refine enterK c_rma_Clone (Nat.le_of_ble_eq_true rfl) fun K hK => ?_; (try simp (maxSteps := 1000000) (disch := first | omega | assumption | exact Nat.le_of_ble_eq_true rfl) only [go_sem, ↓mwp_block, simprocAttr, ir_rma_Clone]))
  (refine st_alloc S ?_; clear S; intro b h S; (try simp only [splice_cons, splice_nil, List.set_cons_zero, List.set_cons_succ, Nat.zero_add, Nat.reduceAdd, List.cons_append, List.nil_append] at S); ((try clear F); have F := S.all; (try simp only [all_cons, all_nil, says_cell, and_true] at F)))
  (try simp (maxSteps := 1000000) (disch := first | omega | assumption | exact Nat.le_of_ble_eq_true rfl) only [go_sem, ↓mwp_block, simprocAttr])
  (refine st_alloc S ?_; clear S; intro g h S; (try simp only [splice_cons, splice_nil, List.set_cons_zero, List.set_cons_succ, Nat.zero_add, Nat.reduceAdd, List.cons_append, List.nil_append] at S); ((try clear F); have F := S.all; (try simp only [all_cons, all_nil, says_cell, and_true] at F)))
  have hg0 := st_rd1 (off := 8) S.p1
  have hg1 := st_rd1 (off := 9) S.p1
  simp only [RetV.enc, List.getElem?_cons_succ, List.getElem?_cons_zero] at hg0 hg1
  have hI : (fun h' => rd1 h' (.pointer (some ⟨b, 8, none⟩)) = some (.slice x.A x.r.us.length x.c) ∧ rd1 h' (.pointer (some ⟨b, 9, none⟩)) = some (.slice x.B x.r.gs.length x.d)) h := ⟨hg0, hg1⟩
  have rx : ∀ K t, readT (fun h' => rd1 h' (.pointer (some ⟨b, 8, none⟩)) = some (.slice x.A x.r.us.length x.c) ∧ rd1 h' (.pointer (some ⟨b, 9, none⟩)) = some (.slice x.B x.r.gs.length x.d)) (fun h' => rd1 h' (.pointer (some ⟨b, 8, none⟩))) K t = K (.slice x.A x.r.us.length x.c) := fun K t => readT_I (fun h' hh => hh.1) h hI
  have ry : ∀ K t, readT (fun h' => rd1 h' (.pointer (some ⟨b, 8, none⟩)) = some (.slice x.A x.r.us.length x.c) ∧ rd1 h' (.pointer (some ⟨b, 9, none⟩)) = some (.slice x.B x.r.gs.length x.d)) (fun h' => rd1 h' (.pointer (some ⟨b, 9, none⟩))) K t = K (.slice x.B x.r.gs.length x.d) := fun K t => readT_I (fun h' hh => hh.2) h hI
  (try simp (maxSteps := 1000000) (disch := first | omega | assumption | exact Nat.le_of_ble_eq_true rfl) only [go_sem, ↓mwp_block, simprocAttr])
  refine draw_inv (fun h' => rd1 h' (.pointer (some ⟨b, 8, none⟩)) = some (.slice x.A x.r.us.length x.c) ∧ rd1 h' (.pointer (some ⟨b, 9, none⟩)) = some (.slice x.B x.r.gs.length x.d)) hI ?_
  (try simp (maxSteps := 1000000) (disch := first | omega | assumption | exact Nat.le_of_ble_eq_true rfl) only [go_sem, ↓mwp_block, simprocAttr, rx, ry])
  refine call_intro (CloneI_ok S (ha _ S.tl.tl) rfl (by omega)) ?_
  clear S F hg0 hg1 hI rx ry
  intro v h S
  obtain ⟨A, c, rfl⟩ := S.sl
  refine ⟨⟨st_rd1 (off := 8) S.p2, st_rd1 (off := 9) S.p2⟩, ?_⟩
  (try simp (maxSteps := 1000000) (disch := first | omega | assumption | exact Nat.le_of_ble_eq_true rfl) only [go_sem, ↓mwp_block, simprocAttr])
  refine call_intro (CloneI_ok S (hb _ S.tl.tl.tl) rfl (by omega)) ?_
  clear S
  intro v h S
  obtain ⟨B, d, rfl⟩ := S.sl
  (try simp (maxSteps := 1000000) (disch := first | omega | assumption | exact Nat.le_of_ble_eq_true rfl) only [go_sem, ↓mwp_block, simprocAttr])
  refine st_store S.p3 rfl rfl (Nat.le_of_ble_eq_true rfl) ?_
  clear S
  intro h S
  rw [RetV.enc] at S
  (try simp only [splice_cons, splice_nil, List.set_cons_zero, List.set_cons_succ, Nat.zero_add, Nat.reduceAdd, List.cons_append, List.nil_append] at S)
  (try simp (maxSteps := 1000000) (disch := first | omega | assumption | exact Nat.le_of_ble_eq_true rfl) only [go_sem, ↓mwp_block, simprocAttr])
  refine st_store S rfl rfl (Nat.le_of_ble_eq_true rfl) ?_
  clear S
  intro h S
  (try simp only [splice_cons, splice_nil, List.set_cons_zero, List.set_cons_succ, Nat.zero_add, Nat.reduceAdd, List.cons_append, List.nil_append] at S)
  ((try clear F); have F := S.all; (try simp only [all_cons, all_nil, says_cell, and_true] at F))
  (try simp (maxSteps := 1000000) (disch := first | omega | assumption | exact Nat.le_of_ble_eq_true rfl) only [go_sem, ↓mwp_block, simprocAttr, F])
  refine st_store S.p3 rfl rfl (Nat.le_of_ble_eq_true rfl) ?_
  clear S F
  intro h S
  (try simp only [splice_cons, splice_nil, List.set_cons_zero, List.set_cons_succ, Nat.zero_add, Nat.reduceAdd, List.cons_append, List.nil_append] at S)
  ((try clear F); have F := S.all; (try simp only [all_cons, all_nil, says_cell, and_true] at F))
  (try simp (maxSteps := 1000000) (disch := first | omega | assumption | exact Nat.le_of_ble_eq_true rfl) only [go_sem, ↓mwp_block, simprocAttr, F])
  exact hK _ _ ⟨⟨x.r, A, c, B, d⟩, rfl, rfl, St.star.2 S.tl.tl.p1⟩
theorem RMAs_ok (S : St h0 h (sagaA p D u s :: l)) (hl : s.R.length < 100000) (hr : ∀ r ∈ s.R, r.us.length < 1000000 ∧ r.gs.length < 1000000) :
    CallsH Tryz.prog 35 [.pointer (some ⟨p, 0, none⟩)] h fun v h' => St h0 h' (rmasA v s.R :: sagaA p D u s :: l) := by
  obtain ⟨k, t, o, rs, S⟩ := St.saga.1 S
  obtain ⟨vs, hvs, S⟩ := St.rmas.1 S.p4
  obtain ⟨A, c, rfl⟩ := S.sl
  have hvl : vs.length = s.R.length := by rw [← hvs, List.length_map]
  have hg := st_rd1 (off := 10) (S.perm (l' := _ :: (ownA RetV.enc 14 35 (.slice A vs.length c) vs :: (vs.map retRow ++ stockA k s.K :: timA t s.T :: obxA o s.key s.O :: l))) (by exact (List.Perm.cons _ List.perm_middle).trans (List.Perm.swap _ _ _)))
  simp only [sagE, List.getElem?_cons_succ, List.getElem?_cons_zero] at hg
  (refine enterK c_saga_Saga_RMAs (Nat.le_of_ble_eq_true rfl) fun K hK => ?_; (try simp (maxSteps := 1000000) (disch := first | omega | assumption | exact Nat.le_of_ble_eq_true rfl) only [go_sem, ↓mwp_block, simprocAttr, ir_saga_Saga_RMAs]))
  (try simp (maxSteps := 1000000) (disch := first | omega | assumption | exact Nat.le_of_ble_eq_true rfl) only [go_sem, ↓mwp_block, simprocAttr, hg])
  refine st_make zR RetV.enc_len rfl S (by omega) (by omega) ?_
  intro w h' S'
  have hg' : rd1 h' (.pointer (some ⟨p, 10, none⟩)) = some (.slice A vs.length c) := by
    have := st_rd1 (off := 10) (S'.perm (l' := cellA p (sagE D u k t o (.slice A vs.length c) (.slice none 0 0) s) 94 :: _) (by exact (List.Perm.cons _ (List.Perm.cons _ List.perm_middle)).trans (((List.Perm.cons _ (List.Perm.swap _ _ _))).trans (List.Perm.swap _ _ _))))
    simpa only [sagE, List.getElem?_cons_succ, List.getElem?_cons_zero] using this
  clear S hg
  have S := S'
  clear S'
  obtain ⟨B, d, rfl⟩ := S.sl
  rw [List.length_replicate] at S ⊢
  (try simp (maxSteps := 1000000) (disch := first | omega | assumption | exact Nat.le_of_ble_eq_true rfl) only [go_sem, ↓mwp_block, simprocAttr, hg'])
  refine loop_intro (fun ρ h' => ρ 3 = .slice B vs.length d ∧ ρ 17 = .slice A vs.length c ∧ ρ 18 = .int .i64 vs.length ∧ ∃ (i : Nat) (ys : List RetV), ρ 19 = .int .i64 i ∧ i ≤ vs.length ∧ ys.length = i ∧ ys.map RetV.r = (vs.take i).map RetV.r ∧
    St h0 h' (ownA RetV.enc 14 35 (.slice B vs.length d) (ys ++ List.replicate (vs.length - i) zR) :: ownA RetV.enc 14 35 (.slice A vs.length c) vs :: (ys.map retRow ++ (vs.map retRow ++ (cellA p (sagE D u k t o (.slice A vs.length c) (.slice none 0 0) s) 94 :: stockA k s.K :: timA t s.T :: obxA o s.key s.O :: l))))) (fun ρ _ => vs.length - (iv (ρ 19)).toNat) ?_ ?_
  · (try simp (maxSteps := 1000000) (disch := first | omega | assumption | exact Nat.le_of_ble_eq_true rfl) only [go_sem, ↓mwp_block, simprocAttr])
    exact ⟨0, [], rfl, by omega, rfl, rfl, S⟩
  clear S hg'
  rintro ρ h J hJ ⟨e3, e17, e18, i, ys, e19, hi, hyl, hyp, S⟩
  (try simp (maxSteps := 1000000) (disch := first | omega | assumption | exact Nat.le_of_ble_eq_true rfl) only [go_sem, ↓mwp_block, simprocAttr, e18, e19])
  refine cond_dec (fun hlt => ?_) (fun hlt => ?_)
  · have hil : i < vs.length := by omega
    have hmem := List.getElem_mem hil
    obtain ⟨b1, o1, hA, q1⟩ := (S.p1.arr RetV.enc_len).at hil
    have hin : ∀ {h' : Heap} {L : List HP}, St h0 h' L → (∀ x ∈ vs.map retRow, x ∈ L) → Arr zEnc 1 h' vs[i].A vs[i].r.us ∧ Arr zEnc 1 h' vs[i].B vs[i].r.gs := fun S hL => retRow_in S (hL _ (List.mem_map_of_mem hmem))
    have hrl := hr vs[i].r (by rw [← hvs]; exact List.mem_map_of_mem hmem)
    have hwl : i < (ys ++ List.replicate (vs.length - i) zR).length := by rw [List.length_append, List.length_replicate]; omega
    have hset : ∀ y : RetV, (ys ++ List.replicate (vs.length - i) zR).set i y = (ys ++ [y]) ++ List.replicate (vs.length - (i + 1)) zR := fun y => by
      rw [List.set_append_right _ _ (by omega), hyl, Nat.sub_self, show vs.length - i = vs.length - (i + 1) + 1 by omega, List.replicate_succ, List.set_cons_zero, List.append_assoc]
      rfl
    have htk : (vs.take (i + 1)).map RetV.r = (vs.take i).map RetV.r ++ [vs[i].r] := by rw [List.take_succ_eq_append_getElem hil, List.map_append]; rfl
    generalize vs[i] = x at *
    (try simp (maxSteps := 1000000) (disch := first | omega | assumption | exact Nat.le_of_ble_eq_true rfl) only [go_sem, ↓mwp_block, simprocAttr, e17, e19, hA, q1])
    (refine st_alloc S ?_; clear S; intro g h S; (try simp only [splice_cons, splice_nil, List.set_cons_zero, List.set_cons_succ, Nat.zero_add, Nat.reduceAdd, List.cons_append, List.nil_append] at S); ((try clear F); have F := S.all; (try simp only [all_cons, all_nil, says_cell, and_true] at F)))
    (try simp (maxSteps := 1000000) (disch := first | omega | assumption | exact Nat.le_of_ble_eq_true rfl) only [go_sem, ↓mwp_block, simprocAttr, F, zR, Ret.zero])
    refine st_store S rfl rfl (Nat.le_of_ble_eq_true rfl) ?_
    clear S F q1
    intro h S
    rw [RetV.enc] at S
    (try simp only [splice_cons, splice_nil, List.set_cons_zero, List.set_cons_succ, Nat.zero_add, Nat.reduceAdd, List.cons_append, List.nil_append] at S)
    ((try clear F); have F := S.all; (try simp only [all_cons, all_nil, says_cell, and_true] at F))
    (try simp (maxSteps := 1000000) (disch := first | omega | assumption | exact Nat.le_of_ble_eq_true rfl) only [go_sem, ↓mwp_block, simprocAttr, F])
    rw [show [Value.int .i64 x.r.num, .int .i64 x.r.ord, .int .i64 x.r.rea, .int .i64 x.r.want, .int .i64 x.r.res, .bool x.r.cred, .int .i64 x.r.state, .int .i64 x.r.day, .slice x.A x.r.us.length x.c, .slice x.B x.r.gs.length x.d, .int .i64 x.r.worth, .int .i64 x.r.paid, .int .i64 x.r.credd, .int .i64 x.r.given] = x.enc from rfl]
    refine call_intro (RClone_ok x (fun h' S => (hin S fun z hz => by simp only [List.mem_cons, List.mem_append]; exact .inr (.inr (.inr (.inr (.inl hz))))).1) (fun h' S => (hin S fun z hz => by simp only [List.mem_cons, List.mem_append]; exact .inr (.inr (.inr (.inr (.inl hz))))).2) hrl.1 hrl.2 S) ?_
    clear S F
    rintro _ h ⟨y, rfl, hy, S⟩
    obtain ⟨b, rfl⟩ := S.p2.ownAt (by omega)
    (try simp (maxSteps := 1000000) (disch := first | omega | assumption | exact Nat.le_of_ble_eq_true rfl) only [go_sem, ↓mwp_block, simprocAttr, e3, e19])
    refine st_setOwn RetV.enc_len (i := i) (x := y) S.p2 hwl rfl rfl rfl rfl ?_
    clear S
    intro h S
    rw [hset] at S
    (try simp (maxSteps := 1000000) (disch := first | omega | assumption | exact Nat.le_of_ble_eq_true rfl) only [go_sem, ↓mwp_block, simprocAttr, e19])
    refine hJ _ _ ?_ ?_
    · (try simp (maxSteps := 1000000) (disch := first | omega | assumption | exact Nat.le_of_ble_eq_true rfl) only [go_sem, ↓mwp_block, simprocAttr, e3, e17, e18])
      refine ⟨i + 1, ys ++ [y], rfl, by omega, by rw [List.length_append, hyl]; rfl, by rw [htk, List.map_append, hyp, ← hy]; rfl, ?_⟩
      rw [List.map_append, List.append_assoc (ys.map retRow)]
      have S : St h0 h (_ :: _ :: retRow y :: (ys.map retRow ++ _)) := S.p2.tl.p1.p2.p2
      exact S.perm (.cons _ (.cons _ List.perm_middle.symm))
    · (try simp (maxSteps := 1000000) (disch := first | omega | assumption | exact Nat.le_of_ble_eq_true rfl) only [go_sem, ↓mwp_block, simprocAttr, e19])
      omega
  obtain rfl : i = vs.length := by omega
  rw [Nat.sub_self, List.replicate_zero, List.append_nil] at S
  rw [List.take_length] at hyp
  (try simp (maxSteps := 1000000) (disch := first | omega | assumption | exact Nat.le_of_ble_eq_true rfl) only [go_sem, ↓mwp_block, simprocAttr, e3])
  refine hK _ _ (St.rmas.2 ⟨ys, by rw [hyp, hvs], ?_⟩)
  have e1 : ((ys.map retRow) ++ ((vs.map retRow) ++ ([cellA p (sagE D u k t o (.slice A vs.length c) (.slice none 0 0) s) 94, stockA k s.K, timA t s.T, obxA o s.key s.O] ++ l))).Perm ((vs.map retRow) ++ ((ys.map retRow) ++ ([cellA p (sagE D u k t o (.slice A vs.length c) (.slice none 0 0) s) 94, stockA k s.K, timA t s.T, obxA o s.key s.O] ++ l))) := List.perm_append_comm_assoc _ _ _
  have e2 : ((ys.map retRow) ++ ([cellA p (sagE D u k t o (.slice A vs.length c) (.slice none 0 0) s) 94, stockA k s.K, timA t s.T, obxA o s.key s.O] ++ l)).Perm ([cellA p (sagE D u k t o (.slice A vs.length c) (.slice none 0 0) s) 94, stockA k s.K, timA t s.T, obxA o s.key s.O] ++ ((ys.map retRow) ++ l)) := List.perm_append_comm_assoc _ _ _
  have S1 := S.swap.perm (l' := _ :: ((vs.map retRow) ++ ([cellA p (sagE D u k t o (.slice A vs.length c) (.slice none 0 0) s) 94, stockA k s.K, timA t s.T, obxA o s.key s.O] ++ (ownA RetV.enc 14 35 (.slice B vs.length d) ys :: ((ys.map retRow) ++ l)))))
    (List.Perm.cons _ ((List.Perm.cons _ (e1.trans (List.Perm.append_left _ e2))).trans (List.perm_middle.symm.trans (List.Perm.append_left _ List.perm_middle.symm))))
  have S2 := St.rmas.2 ⟨vs, hvs, S1⟩
  have S3 : St h0 h (rmasA _ s.R :: cellA p _ _ :: stockA k s.K :: timA t s.T :: obxA o s.key s.O :: _) := S2
  have S4 := St.saga.2 ⟨k, t, o, _, S3.p4.p4.p4.p4⟩
  exact S4.swap.perm (List.Perm.cons _ List.perm_middle.symm)
end
end Go.Proofs.YtblalmgahfbalaaGreat.MX

/- The audit: sums. -/
namespace Go.Proofs.YtblalmgahfbalaaGreat.MX
open Go Go.Proofs
set_option linter.unusedSimpArgs false
set_option linter.unusedVariables false
set_option maxHeartbeats 16000000
def Led.sum (x : Led) : Int := x.a + x.b + x.c + x.d + x.e
def okL (n : Int) : Prop := -1125899906842624 ≤ n ∧ n ≤ 1125899906842624
def Led.ok (x : Led) : Prop := okL x.a ∧ okL x.b ∧ okL x.c ∧ okL x.d ∧ okL x.e
def doneR (r : Ret) : Prop := 6 ≤ r.state ∧ r.state ≤ 9
def told (r : Ret) : Int := r.paid + r.credd + r.given
/-- What the audit asks of a saga ahead: it is one. -/
structure Aud (D : Cfg) (U : List Unt) (s : Sag) : Prop where
  cfg : okCfg D
  sh : shOk U
  ul : U.length ≤ 200
  led : s.led.ok
  rl : s.R.length ≤ 100
  rr : ∀ r ∈ s.R, r.right ∧ ∀ v ∈ r.us, v < U.length
  kl : s.K.length ≤ 200
  ol : s.O.length < 1000000
theorem Aud.len {D : Cfg} {U : List Unt} {s : Sag} (W : Aud D U s) : ∀ r ∈ s.R, r.us.length < 1000000 ∧ r.gs.length < 1000000 := fun r hr => by
  have h := (W.rr r hr).1.2.2.2.2.2.2.2.1
  have h1 := h.1.2
  have h2 := h.2.1
  omega
def rowOK (ps : List Pol) (U : List Unt) (r : Ret) : Prop := r.worth = worthOf ps U r ∧ told r ≤ r.worth ∧ (r.state = 6 → told r = r.worth) ∧ (r.state ≠ 6 → r.state ≠ 5 → told r = 0)
def sumsOK (D : Cfg) (U : List Unt) (s : Sag) : Prop := s.led.sum = 0 ∧ ∀ r ∈ s.R, rowOK D.ps U r
theorem rows_snoc {vs : List RetV} {P : Ret → Prop} {i : Nat} (hi : i < vs.length) (h : ∀ r ∈ (vs.take i).map RetV.r, P r) (hx : P vs[i].r) : ∀ r ∈ (vs.take (i + 1)).map RetV.r, P r := fun r hr => by
  rw [List.take_succ_eq_append_getElem hi, List.map_append] at hr
  rcases List.mem_append.1 hr with hr | hr
  · exact h r hr
  · simp at hr; rw [hr]; exact hx
theorem Total_ok (x : Led) (hx : x.ok) (h : Heap) : CallsH Tryz.prog 31 [.agg (List.toArray [.int .i64 x.a, .int .i64 x.b, .int .i64 x.c, .int .i64 x.d, .int .i64 x.e])] h fun v h' => v = .int .i64 x.sum ∧ Fr h h' [] := by
  obtain ⟨⟨_, _⟩, ⟨_, _⟩, ⟨_, _⟩, ⟨_, _⟩, ⟨_, _⟩⟩ := hx
  have S := St.nil h
  (refine enterK c_ledger_Total (Nat.le_of_ble_eq_true rfl) fun K hK => ?_; (try simp (maxSteps := 1000000) (disch := first | omega | assumption | exact Nat.le_of_ble_eq_true rfl) only [go_sem, ↓mwp_block, simprocAttr, ir_ledger_Total]))
  (refine st_alloc S ?_; clear S; intro b h S; (try simp only [splice_cons, splice_nil, List.set_cons_zero, List.set_cons_succ, Nat.zero_add, Nat.reduceAdd, List.cons_append, List.nil_append] at S); ((try clear F); have F := S.all; (try simp only [all_cons, all_nil, says_cell, and_true] at F)))
  (try simp (maxSteps := 1000000) (disch := first | omega | assumption | exact Nat.le_of_ble_eq_true rfl) only [go_sem, ↓mwp_block, simprocAttr, F])
  refine loop_unroll 6 ?_
  (try simp (maxSteps := 1000000) (disch := first | omega | assumption | exact Nat.le_of_ble_eq_true rfl) only [go_sem, ↓mwp_block, simprocAttr])
  refine hK _ _ ⟨?_, S.fr⟩
  congr 1
  unfold Led.sum
  omega
theorem RDone_ok (x : RetV) (h : Heap) : CallsH Tryz.prog 39 [.agg x.enc.toArray] h fun v h' => v = .bool (dcd (doneR x.r)) ∧ Fr h h' [] := by
  have S := St.nil h
  (refine enterK c_rma_Done (Nat.le_of_ble_eq_true rfl) fun K hK => ?_; (try simp (maxSteps := 1000000) (disch := first | omega | assumption | exact Nat.le_of_ble_eq_true rfl) only [go_sem, ↓mwp_block, simprocAttr, ir_rma_Done]))
  (refine st_alloc S ?_; clear S; intro b h S; (try simp only [splice_cons, splice_nil, List.set_cons_zero, List.set_cons_succ, Nat.zero_add, Nat.reduceAdd, List.cons_append, List.nil_append] at S); ((try clear F); have F := S.all; (try simp only [all_cons, all_nil, says_cell, and_true] at F)))
  by_cases h1 : 6 ≤ x.r.state
  · by_cases h2 : x.r.state ≤ 9
    · (try simp (maxSteps := 1000000) (disch := first | omega | assumption | exact Nat.le_of_ble_eq_true rfl) only [go_sem, ↓mwp_block, simprocAttr, F, RetV.enc, h1, h2])
      exact hK _ _ ⟨by rw [dcd_true ⟨h1, h2⟩], S.fr⟩
    · (try simp (maxSteps := 1000000) (disch := first | omega | assumption | exact Nat.le_of_ble_eq_true rfl) only [go_sem, ↓mwp_block, simprocAttr, F, RetV.enc, h1, h2])
      exact hK _ _ ⟨by rw [dcd_false fun h => h2 h.2], S.fr⟩
  · (try simp (maxSteps := 1000000) (disch := first | omega | assumption | exact Nat.le_of_ble_eq_true rfl) only [go_sem, ↓mwp_block, simprocAttr, F, RetV.enc, h1])
    exact hK _ _ ⟨by rw [dcd_false fun h => h1 h.1], S.fr⟩
section
variable {h0 h : Heap} {l : List HP} {p : Nat} {D : Cfg} {s : Sag} {U : List Unt} {A : Option Addr} {c : Nat}
theorem stcA_arr (S : St h0 h l) (hm : stcA D (.slice A U.length c) U ∈ l) : D.rd h ∧ Arr Unt.enc 4 h A U := by
  obtain ⟨h1, A', c', e, h2⟩ := stcA_in S hm
  cases e
  exact ⟨h1, h2⟩
theorem ASums_nil (h : Heap) : CallsH Tryz.prog 13 [.pointer none] h fun v h' => v = .bool false ∧ h' = h := by
  (refine enterK c_audit_Sums (Nat.le_of_ble_eq_true rfl) fun K hK => ?_; (try simp (maxSteps := 1000000) (disch := first | omega | assumption | exact Nat.le_of_ble_eq_true rfl) only [go_sem, ↓mwp_block, simprocAttr, ir_audit_Sums]))
  exact hK _ _ ⟨rfl, rfl⟩
theorem ASums_ok (W : Aud D U s) (S : St h0 h (sagaA p D (.slice A U.length c) s :: stcA D (.slice A U.length c) U :: l)) :
    CallsH Tryz.prog 13 [.pointer (some ⟨p, 0, none⟩)] h fun v h' => v = .bool (dcd (sumsOK D U s)) ∧ St h0 h' (sagaA p D (.slice A U.length c) s :: stcA D (.slice A U.length c) U :: l) := by
  have hul := W.ul
  have hrl := W.rl
  (refine enterK c_audit_Sums (Nat.le_of_ble_eq_true rfl) fun K hK => ?_; (try simp (maxSteps := 1000000) (disch := first | omega | assumption | exact Nat.le_of_ble_eq_true rfl) only [go_sem, ↓mwp_block, simprocAttr, ir_audit_Sums]))
  refine call_intro (Ledger_ok S) ?_
  clear S
  rintro _ h ⟨rfl, S⟩
  (try simp (maxSteps := 1000000) (disch := first | omega | assumption | exact Nat.le_of_ble_eq_true rfl) only [go_sem, ↓mwp_block, simprocAttr])
  refine call_intro (Total_ok s.led W.led _) ?_
  rintro _ h ⟨rfl, f1⟩
  have S := S.frame f1
  clear f1
  by_cases z : s.led.sum = 0
  case neg =>
    (try simp (maxSteps := 1000000) (disch := first | omega | assumption | exact Nat.le_of_ble_eq_true rfl) only [go_sem, ↓mwp_block, simprocAttr, z])
    exact hK _ _ ⟨by rw [dcd_false fun h => z h.1], S⟩
  (try simp (maxSteps := 1000000) (disch := first | omega | assumption | exact Nat.le_of_ble_eq_true rfl) only [go_sem, ↓mwp_block, simprocAttr, z])
  refine call_intro (Config_ok S (fun h' S => (stcA_arr (D := D) (U := U) (A := A) (c := c) S (by simp)).1) W.cfg) ?_
  clear S
  rintro _ h ⟨E, rfl, hEw, hEp, S⟩
  have hEps : E.ps = D.ps := congrArg (·.1) hEp
  (try simp (maxSteps := 1000000) (disch := first | omega | assumption | exact Nat.le_of_ble_eq_true rfl) only [go_sem, ↓mwp_block, simprocAttr])
  refine call_intro (Units_ok S.p1 (fun h' S => (stcA_arr (D := D) (U := U) (A := A) (c := c) S (by simp)).2) (by omega)) ?_
  clear S
  intro v h S
  obtain ⟨A', c', rfl⟩ := S.sl
  (try simp (maxSteps := 1000000) (disch := first | omega | assumption | exact Nat.le_of_ble_eq_true rfl) only [go_sem, ↓mwp_block, simprocAttr])
  (refine st_alloc S ?_; clear S; intro g h S; (try simp only [splice_cons, splice_nil, List.set_cons_zero, List.set_cons_succ, Nat.zero_add, Nat.reduceAdd, List.cons_append, List.nil_append] at S); ((try clear F); have F := S.all; (try simp only [all_cons, all_nil, says_cell, and_true] at F)))
  (try simp (maxSteps := 1000000) (disch := first | omega | assumption | exact Nat.le_of_ble_eq_true rfl) only [go_sem, ↓mwp_block, simprocAttr])
  refine st_store S rfl rfl (Nat.le_of_ble_eq_true rfl) ?_
  clear S F
  intro h S
  rw [Cfg.enc] at S
  (try simp only [splice_cons, splice_nil, List.set_cons_zero, List.set_cons_succ, Nat.zero_add, Nat.reduceAdd, List.cons_append, List.nil_append] at S)
  (try simp (maxSteps := 1000000) (disch := first | omega | assumption | exact Nat.le_of_ble_eq_true rfl) only [go_sem, ↓mwp_block, simprocAttr])
  refine call_intro (RMAs_ok S.p2 (by omega) W.len) ?_
  clear S
  intro v h S
  obtain ⟨vs, hvs, S⟩ := St.rmas.1 S
  have hvl : vs.length ≤ 100 := by rw [← List.length_map (f := RetV.r), hvs]; omega
  obtain ⟨B, d, rfl⟩ := S.sl
  have S : St h0 h (ownA RetV.enc 14 35 (.slice B vs.length d) vs :: (vs.map retRow ++ (sagaA p D (.slice A U.length c) s :: cellA g E.enc 26 :: ownA Unt.enc 4 76 (.slice A' U.length c') U :: cfgA E :: stcA D (.slice A U.length c) U :: l))) := S
  (try simp (maxSteps := 1000000) (disch := first | omega | assumption | exact Nat.le_of_ble_eq_true rfl) only [go_sem, ↓mwp_block, simprocAttr])
  refine loop_intro (fun ρ h' => ρ 3 = .pointer (some ⟨g, 0, none⟩) ∧ ρ 4 = .slice A' U.length c' ∧ ρ 21 = .slice B vs.length d ∧ ρ 22 = .int .i64 vs.length ∧ ∃ i : Nat, ρ 23 = .int .i64 i ∧ i ≤ vs.length ∧ (∀ r ∈ (vs.take i).map RetV.r, rowOK D.ps U r) ∧
    St h0 h' (cellA g E.enc 26 :: ownA RetV.enc 14 35 (.slice B vs.length d) vs :: (vs.map retRow ++ (sagaA p D (.slice A U.length c) s :: ownA Unt.enc 4 76 (.slice A' U.length c') U :: cfgA E :: stcA D (.slice A U.length c) U :: l)))) (fun ρ _ => vs.length - (iv (ρ 23)).toNat) ?_ ?_
  · (try simp (maxSteps := 1000000) (disch := first | omega | assumption | exact Nat.le_of_ble_eq_true rfl) only [go_sem, ↓mwp_block, simprocAttr])
    refine ⟨0, rfl, by omega, by simp, ?_⟩
    exact S.perm ((List.Perm.cons _ ((List.Perm.append_left _ (List.Perm.swap _ _ _)).trans List.perm_middle)).trans (List.Perm.swap _ _ _))
  clear S
  rintro ρ h J hJ ⟨e3, e4, e21, e22, i, e23, hi, hok, S⟩
  (try simp (maxSteps := 1000000) (disch := first | omega | assumption | exact Nat.le_of_ble_eq_true rfl) only [go_sem, ↓mwp_block, simprocAttr, e22, e23])
  refine cond_dec (fun hlt => ?_) (fun hlt => ?_)
  · have hil : i < vs.length := by omega
    have hmem := List.getElem_mem hil
    obtain ⟨b1, o1, hA, q1⟩ := (S.p1.arr RetV.enc_len).at hil
    have hin : ∀ {h' : Heap} {L : List HP}, St h0 h' L → (∀ x ∈ vs.map retRow, x ∈ L) → Arr zEnc 1 h' vs[i].A vs[i].r.us ∧ Arr zEnc 1 h' vs[i].B vs[i].r.gs := fun S hL => retRow_in S (hL _ (List.mem_map_of_mem hmem))
    have hmr : vs[i].r ∈ s.R := by rw [← hvs]; exact List.mem_map_of_mem hmem
    obtain ⟨hright, hlt'⟩ := W.rr _ hmr
    have hsn := rows_snoc hil hok
    have hbad : ¬ rowOK D.ps U vs[i].r → ¬ sumsOK D U s := fun hn h => hn (h.2 _ hmr)
    generalize vs[i] = x at *
    obtain ⟨_, _, hrea, _, _, _, _, hou, ⟨w0, w1⟩, ⟨p0, p1⟩, ⟨c0, c1⟩, g0, g1⟩ := id hright
    (try simp (maxSteps := 1000000) (disch := first | omega | assumption | exact Nat.le_of_ble_eq_true rfl) only [go_sem, ↓mwp_block, simprocAttr, e21, e23, hA, q1])
    (refine st_alloc S ?_; clear S; intro q h S; (try simp only [splice_cons, splice_nil, List.set_cons_zero, List.set_cons_succ, Nat.zero_add, Nat.reduceAdd, List.cons_append, List.nil_append] at S); ((try clear F); have F := S.all; (try simp only [all_cons, all_nil, says_cell, and_true] at F)))
    (try simp (maxSteps := 1000000) (disch := first | omega | assumption | exact Nat.le_of_ble_eq_true rfl) only [go_sem, ↓mwp_block, simprocAttr, F, RetV.enc])
    refine st_store S rfl rfl (Nat.le_of_ble_eq_true rfl) ?_
    clear S F q1
    intro h S
    (try simp only [splice_cons, splice_nil, List.set_cons_zero, List.set_cons_succ, Nat.zero_add, Nat.reduceAdd, List.cons_append, List.nil_append] at S)
    have S : St h0 h (cellA q x.enc 35 :: _) := S
    ((try clear F); have F := S.all; (try simp only [all_cons, all_nil, says_cell, and_true] at F))
    (try simp (maxSteps := 1000000) (disch := first | omega | assumption | exact Nat.le_of_ble_eq_true rfl) only [go_sem, ↓mwp_block, simprocAttr, F, RetV.enc])
    have hI : (fun h' => blk h' q = some (x.enc, 35, (0, 0)) ∧ blk h' g = some (E.enc, 26, (0, 0))) h := ⟨S.blk, S.p1.blk⟩
    have r6 : ∀ K t, readT (fun h' => blk h' q = some (x.enc, 35, (0, 0)) ∧ blk h' g = some (E.enc, 26, (0, 0))) (fun h' => rd1 h' (.pointer (some ⟨q, 6, none⟩))) K t = K (.int .i64 x.r.state) := fun K t => readT_I (fun h' hh => by rw [rd1_blk hh.1]; rfl) h hI
    have r10 : ∀ K t, readT (fun h' => blk h' q = some (x.enc, 35, (0, 0)) ∧ blk h' g = some (E.enc, 26, (0, 0))) (fun h' => rd1 h' (.pointer (some ⟨q, 10, none⟩))) K t = K (.int .i64 x.r.worth) := fun K t => readT_I (fun h' hh => by rw [rd1_blk hh.1]; rfl) h hI
    have rq : ∀ K t, readT (fun h' => blk h' q = some (x.enc, 35, (0, 0)) ∧ blk h' g = some (E.enc, 26, (0, 0))) (fun h' => bindV (rdN h' q 0 14) fun cs => some (.agg cs.toArray)) K t = K (.agg x.enc.toArray) := fun K t => readT_I (fun h' hh => by rw [rdN_blk hh.1 (Nat.le_of_ble_eq_true rfl)]; rfl) h hI
    have rg : ∀ K t, readT (fun h' => blk h' q = some (x.enc, 35, (0, 0)) ∧ blk h' g = some (E.enc, 26, (0, 0))) (fun h' => bindV (rdN h' g 0 3) fun cs => some (.agg cs.toArray)) K t = K (.agg E.enc.toArray) := fun K t => readT_I (fun h' hh => by rw [rdN_blk hh.2 (Nat.le_of_ble_eq_true rfl)]; rfl) h hI
    refine draw_inv (fun h' => blk h' q = some (x.enc, 35, (0, 0)) ∧ blk h' g = some (E.enc, 26, (0, 0))) hI ?_
    (try simp (maxSteps := 1000000) (disch := first | omega | assumption | exact Nat.le_of_ble_eq_true rfl) only [go_sem, ↓mwp_block, simprocAttr, e3, e4, r6, r10, rq, rg])
    have hin' := hin S fun z hz => by simp only [List.mem_cons, List.mem_append]; exact .inr (.inr (.inr (.inl hz)))
    have hcfg := cfgA_in (D := E) S (by simp)
    have harr : Arr Unt.enc 4 h A' U := by
      obtain ⟨M, S1⟩ := st_mem S (X := ownA Unt.enc 4 76 (.slice A' U.length c') U) (by simp)
      exact S1.arr Unt.enc_len
    refine call_intro (aworth_ok (D := E) hcfg.ps harr hin'.1 hin'.2 (by rw [hEps]; exact W.cfg.1) W.sh ⟨hrea.1, by have := hrea.2; omega⟩ hou hlt') ?_
    rw [hEps]
    clear hin' hcfg harr
    rintro _ h ⟨rfl, f2⟩
    have S := S.frame f2
    clear f2 r6 r10 rq rg hI F
    refine ⟨⟨S.blk, S.p1.blk⟩, ?_⟩
    have hI : (fun h' => blk h' q = some (x.enc, 35, (0, 0)) ∧ blk h' g = some (E.enc, 26, (0, 0))) h := ⟨S.blk, S.p1.blk⟩
    have r6 : ∀ K t, readT (fun h' => blk h' q = some (x.enc, 35, (0, 0)) ∧ blk h' g = some (E.enc, 26, (0, 0))) (fun h' => rd1 h' (.pointer (some ⟨q, 6, none⟩))) K t = K (.int .i64 x.r.state) := fun K t => readT_I (fun h' hh => by rw [rd1_blk hh.1]; rfl) h hI
    have r10 : ∀ K t, readT (fun h' => blk h' q = some (x.enc, 35, (0, 0)) ∧ blk h' g = some (E.enc, 26, (0, 0))) (fun h' => rd1 h' (.pointer (some ⟨q, 10, none⟩))) K t = K (.int .i64 x.r.worth) := fun K t => readT_I (fun h' hh => by rw [rd1_blk hh.1]; rfl) h hI
    have htold : x.r.paid + x.r.credd + x.r.given = told x.r := rfl
    generalize hW : worthOf D.ps U x.r = wo at *
    generalize told x.r = td at *
    have hrow : rowOK D.ps U x.r ↔ (x.r.worth = wo ∧ td ≤ x.r.worth ∧ (x.r.state = 6 → td = x.r.worth) ∧ (x.r.state ≠ 6 → x.r.state ≠ 5 → td = 0)) := by
      unfold rowOK told
      rw [htold, hW]
    by_cases k1 : x.r.worth = wo
    case neg =>
      (try simp (maxSteps := 1000000) (disch := first | omega | assumption | exact Nat.le_of_ble_eq_true rfl) only [go_sem, ↓mwp_block, simprocAttr])
      exact hK _ _ ⟨by rw [dcd_false (hbad fun h => k1 (hrow.1 h).1)], (S.tl.tl.tl.dropL).d1.d1⟩
    subst k1
    by_cases k2 : x.r.worth < td
    · (try simp (maxSteps := 1000000) (disch := first | omega | assumption | exact Nat.le_of_ble_eq_true rfl) only [go_sem, ↓mwp_block, simprocAttr, htold, r10])
      exact hK _ _ ⟨by rw [dcd_false (hbad fun h => by have := (hrow.1 h).2.1; omega)], (S.tl.tl.tl.dropL).d1.d1⟩
    by_cases k3 : x.r.state = 6
    · by_cases k4 : td = x.r.worth
      case neg =>
        (try simp (maxSteps := 1000000) (disch := first | omega | assumption | exact Nat.le_of_ble_eq_true rfl) only [go_sem, ↓mwp_block, simprocAttr, htold, r6, r10])
        exact hK _ _ ⟨by rw [dcd_false (hbad fun h => k4 ((hrow.1 h).2.2.1 k3))], (S.tl.tl.tl.dropL).d1.d1⟩
      (try simp (maxSteps := 1000000) (disch := first | omega | assumption | exact Nat.le_of_ble_eq_true rfl) only [go_sem, ↓mwp_block, simprocAttr, htold, r6, r10])
      (try simp (maxSteps := 1000000) (disch := first | omega | assumption | exact Nat.le_of_ble_eq_true rfl) only [go_sem, ↓mwp_block, simprocAttr, e23])
      refine hJ _ _ ?_ ?_
      · (try simp (maxSteps := 1000000) (disch := first | omega | assumption | exact Nat.le_of_ble_eq_true rfl) only [go_sem, ↓mwp_block, simprocAttr, e3, e4, e21, e22])
        exact ⟨i + 1, rfl, by omega, hsn (hrow.2 ⟨rfl, by omega, fun h => k4, fun h1 h2 => absurd k3 h1⟩), S.tl⟩
      · (try simp (maxSteps := 1000000) (disch := first | omega | assumption | exact Nat.le_of_ble_eq_true rfl) only [go_sem, ↓mwp_block, simprocAttr, e23])
        omega
    by_cases k5 : x.r.state = 5
    · (try simp (maxSteps := 1000000) (disch := first | omega | assumption | exact Nat.le_of_ble_eq_true rfl) only [go_sem, ↓mwp_block, simprocAttr, htold, r6, r10])
      (try simp (maxSteps := 1000000) (disch := first | omega | assumption | exact Nat.le_of_ble_eq_true rfl) only [go_sem, ↓mwp_block, simprocAttr, e23])
      refine hJ _ _ ?_ ?_
      · (try simp (maxSteps := 1000000) (disch := first | omega | assumption | exact Nat.le_of_ble_eq_true rfl) only [go_sem, ↓mwp_block, simprocAttr, e3, e4, e21, e22])
        exact ⟨i + 1, rfl, by omega, hsn (hrow.2 ⟨rfl, by omega, fun h => absurd h k3, fun h1 h2 => absurd k5 h2⟩), S.tl⟩
      · (try simp (maxSteps := 1000000) (disch := first | omega | assumption | exact Nat.le_of_ble_eq_true rfl) only [go_sem, ↓mwp_block, simprocAttr, e23])
        omega
    by_cases k6 : td = 0
    case neg =>
      (try simp (maxSteps := 1000000) (disch := first | omega | assumption | exact Nat.le_of_ble_eq_true rfl) only [go_sem, ↓mwp_block, simprocAttr, htold, r6, r10])
      exact hK _ _ ⟨by rw [dcd_false (hbad fun h => k6 ((hrow.1 h).2.2.2 k3 k5))], (S.tl.tl.tl.dropL).d1.d1⟩
    · (try simp (maxSteps := 1000000) (disch := first | omega | assumption | exact Nat.le_of_ble_eq_true rfl) only [go_sem, ↓mwp_block, simprocAttr, htold, r6, r10])
      (try simp (maxSteps := 1000000) (disch := first | omega | assumption | exact Nat.le_of_ble_eq_true rfl) only [go_sem, ↓mwp_block, simprocAttr, e23])
      refine hJ _ _ ?_ ?_
      · (try simp (maxSteps := 1000000) (disch := first | omega | assumption | exact Nat.le_of_ble_eq_true rfl) only [go_sem, ↓mwp_block, simprocAttr, e3, e4, e21, e22])
        exact ⟨i + 1, rfl, by omega, hsn (hrow.2 ⟨rfl, by omega, fun h => absurd h k3, fun h1 h2 => k6⟩), S.tl⟩
      · (try simp (maxSteps := 1000000) (disch := first | omega | assumption | exact Nat.le_of_ble_eq_true rfl) only [go_sem, ↓mwp_block, simprocAttr, e23])
        omega
  obtain rfl : i = vs.length := by omega
  rw [List.take_length, hvs] at hok
  (try simp (maxSteps := 1000000) (disch := first | omega | assumption | exact Nat.le_of_ble_eq_true rfl) only [go_sem, ↓mwp_block, simprocAttr])
  exact hK _ _ ⟨by rw [dcd_true ⟨z, hok⟩], (S.tl.tl.dropL).d1.d1⟩
end
end Go.Proofs.YtblalmgahfbalaaGreat.MX
