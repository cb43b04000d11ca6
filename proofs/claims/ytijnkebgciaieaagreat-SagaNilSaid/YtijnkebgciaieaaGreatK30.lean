import Derived.Test.YtijnkebgciaieaaGreatK29
namespace Go.Proofs.YtijnkebgciaieaaGreat.MX
open Go Go.Proofs
set_option linter.unusedSimpArgs false
set_option linter.unusedVariables false
section
set_option maxHeartbeats 4000000
structure Loc where
 p : Nat
 k : Nat
 t : Nat
 o : Nat
 A : Option Addr
 c : Nat
def wkA (L : Loc) (D : Cfg) (u : Value) (w : Wk) : HP := exA fun x : Value × List RetV => starsA (pureA (x.2.map RetV.r = w.s.R) :: cellA L.p (sagE D u L.k L.t L.o (.slice L.A w.s.R.length L.c) x.1 w.s) 64 :: stockA L.k w.s.K :: timA L.t w.s.T :: obxA L.o w.s.key w.s.O ::
 ownA RetV.enc 14 66 (.slice L.A w.s.R.length L.c) x.2 :: ownA Msg.enc 6 110 x.1 w.sd :: x.2.map retRow)
section
variable {h0 h : Heap} {l : List HP} {L : Loc} {D : Cfg} {u : Value} {w : Wk} {U : List Unt}
theorem St.wk : St h0 h (wkA L D u w :: l) ↔ ∃ (sd : Value) (vs : List RetV), vs.map RetV.r = w.s.R ∧ St h0 h (cellA L.p (sagE D u L.k L.t L.o (.slice L.A w.s.R.length L.c) sd w.s) 64 :: stockA L.k w.s.K :: timA L.t w.s.T :: obxA L.o w.s.key w.s.O ::
  ownA RetV.enc 14 66 (.slice L.A w.s.R.length L.c) vs :: ownA Msg.enc 6 110 sd w.sd :: (vs.map retRow ++ l)) := by
 rw [wkA, St.ex]
 constructor
 ·rintro ⟨⟨sd, vs⟩, S⟩
  obtain ⟨hv, S⟩ := St.pure.1 (St.stars.1 S)
  exact ⟨sd, vs, hv, S⟩
 ·rintro ⟨sd, vs, hv, S⟩
  exact ⟨⟨sd, vs⟩, St.stars.2 (St.pure.2 ⟨hv, S⟩)⟩
theorem St.wkCell (S : St h0 h (wkA L D u w :: l)) : ∃ sd M, St h0 h (cellA L.p (sagE D u L.k L.t L.o (.slice L.A w.s.R.length L.c) sd w.s) 64 :: M) ∧
  ∀ h' (s' : Sag), s'.K = w.s.K → s'.R = w.s.R → s'.T = w.s.T → s'.key = w.s.key → s'.O = w.s.O → St h0 h' (cellA L.p (sagE D u L.k L.t L.o (.slice L.A w.s.R.length L.c) sd s') 64 :: M) → St h0 h' (wkA L D u { w with s := s' } :: l) := by
 obtain ⟨sd, vs, hv, S⟩ := St.wk.1 S
 refine ⟨sd, _, S, fun h' s' e1 e2 e3 e4 e5 S' => St.wk.2 ⟨sd, vs, ?_, ?_⟩⟩
 ·rw [hv]; exact e2.symm
 ·simp only [e1, e2, e3, e4, e5]
  exact S'
theorem St.wkStock (S : St h0 h (wkA L D u w :: l)) : ∃ M, St h0 h (stockA L.k w.s.K :: M) ∧ ∀ h' K', St h0 h' (stockA L.k K' :: M) → St h0 h' (wkA L D u { w with s := { w.s with K := K' } } :: l) := by
 obtain ⟨sd, vs, hv, S⟩ := St.wk.1 S
 exact ⟨_, S.p1, fun h' K' S' => St.wk.2 ⟨sd, vs, hv, S'.p1⟩⟩
theorem St.wkTim (S : St h0 h (wkA L D u w :: l)) : ∃ M, St h0 h (timA L.t w.s.T :: M) ∧ ∀ h' T', St h0 h' (timA L.t T' :: M) → St h0 h' (wkA L D u { w with s := { w.s with T := T' } } :: l) := by
 obtain ⟨sd, vs, hv, S⟩ := St.wk.1 S
 exact ⟨_, S.p2, fun h' T' S' => St.wk.2 ⟨sd, vs, hv, S'.p2.p2⟩⟩
theorem St.wkObx (S : St h0 h (wkA L D u w :: l)) : ∃ M, St h0 h (obxA L.o w.s.key w.s.O :: M) ∧ ∀ h' key' O', St h0 h' (obxA L.o key' O' :: M) → St h0 h' (wkA L D u { w with s := { w.s with key := key', O := O' } } :: l) := by
 obtain ⟨sd, vs, hv, S⟩ := St.wk.1 S
 exact ⟨_, S.p3, fun h' key' O' S' => St.wk.2 ⟨sd, vs, hv, S'.p3.p3.p3⟩⟩
theorem St.wkRet {b i : Nat} (S : St h0 h (wkA L D u w :: l)) (hA : L.A = some ⟨b, 0, none⟩) (hi : i < w.s.R.length) :
  ∃ x : RetV, x.r = w.R i ∧ (∀ j, j < 14 → rd1 h (.pointer (some ⟨b, i * 14 + j, none⟩)) = x.enc[j]?) ∧ rdN h b (i * 14) 14 = some x.enc ∧ Arr zEnc 1 h x.A x.r.us ∧ Arr zEnc 1 h x.B x.r.gs := by
 obtain ⟨sd, vs, hv, S⟩ := St.wk.1 S
 have hil : i < vs.length := by rw [← hv, l_z] at hi; exact hi
 have e : vs[i].r = w.R i := by
  unfold Wk.R
  rw [← hv, l_s, l_ag, l_r hil]
  rfl
 have S4 := S.p4
 rw [hA] at S4
 obtain ⟨b', o', hb, q⟩ := (S4.arr RetV.enc_len).at hil
 cases hb
 have hr := retRow_in S (x := vs[i]) (by simp only [l_e, l_y]; exact .inr (.inr (.inr (.inr (.inr (.inr (.inl (l_ai (l_v hil)))))))))
 refine ⟨vs[i], e, fun j hj => own_part RetV.enc_len S4 hil hj, ?_, hr.1, hr.2⟩
 rw [Nat.zero_add] at q
 exact q
theorem st_wkSet {b i j : Nat} {v : Value} {r' : Ret} {K : Value → Heap → Prop} {s : Tag h} {t : Tag K} (S : St h0 h (wkA L D u w :: l)) (hA : L.A = some ⟨b, 0, none⟩) (hi : i < w.s.R.length) (hj : j < 14) (hp : pC [v] = true)
  (hu : r'.us = (w.R i).us) (hg : r'.gs = (w.R i).gs) (hx : ∀ x : RetV, x.r = w.R i → RetV.enc { x with r := r' } = splice x.enc j [v]) (hk : ∀ h', St h0 h' (wkA L D u (w.put i r') :: l) → K undef h') : storeT 1 (.pointer (some ⟨b, i * 14 + j, none⟩)) [v] h K s t := by
 obtain ⟨sd, vs, hv, S⟩ := St.wk.1 S
 have hl : vs.length = w.s.R.length := by rw [← hv, l_z]
 have hil : i < vs.length := by omega
 have e : vs[i].r = w.R i := by
  unfold Wk.R
  rw [← hv, l_s, l_ag, l_r hil]
  rfl
 have S4 := S.p4
 rw [hA] at S4
 refine st_setPart RetV.enc_len (i := i) (j := j) (x := { vs[i] with r := r' }) S4 hil rfl (by simp; omega) rfl hp (hx _ e) ?_
 intro h' S'
 rw [← hA] at S'
 refine hk _ (St.wk.2 ⟨sd, vs.set i { vs[i] with r := r' }, ?_, ?_⟩)
 ·rw [List.map_set, hv]; rfl
 ·have e1 : (vs.set i { vs[i] with r := r' }).map retRow = vs.map retRow := by
   rw [List.map_set]
   have : retRow { vs[i] with r := r' } = (vs.map retRow)[i]'(by rw [l_z]; exact hil) := by
    rw [l_ae]
    unfold retRow
    simp only [hu, hg, e]
   rw [this, List.set_getElem_self]
  have e2 : (w.put i r').s.R.length = w.s.R.length := put_len
  rw [e1]
  show St h0 h' (cellA L.p (sagE D u L.k L.t L.o (.slice L.A (w.put i r').s.R.length L.c) sd (w.put i r').s) 64 :: _ :: _ :: _ :: ownA RetV.enc 14 66 (.slice L.A (w.put i r').s.R.length L.c) _ :: _)
  rw [e2]
  exact S'.p4.p4.p4.p4
end
end
section
set_option maxHeartbeats 8000000
def ixI (xs : List Int) (v : Int) : Int := match xs.findIdx? fun u => decide (u = v) with
 | some i => (i : Int)
 | none => -1
theorem ixI_none {xs : List Int} {v : Int} (h : v ∉ xs) : xs.findIdx? (fun u => decide (u = v)) = none := by
 rw [List.findIdx?_eq_none_iff]
 intro x hx
 have : x ≠ v := fun e => h (e ▸ hx)
 simp [this]
theorem ixI_some {xs : List Int} {v : Int} {i : Nat} (hi : i < xs.length) (h1 : ∀ j, j < i → xs.getD j 0 ≠ v) (h2 : xs.getD i 0 = v) : xs.findIdx? (fun u => decide (u = v)) = some i := by
 rw [List.findIdx?_eq_some_iff_getElem]
 refine ⟨hi, by rw [← getD_at hi, h2]; simp, fun j hj => ?_⟩
 have := h1 j hj
 rw [getD_at (by omega)] at this
 simp [this]
theorem Index_ok {h : Heap} {A : Option Addr} {c : Nat} {xs : List Int} (v : Int) (ha : Arr zEnc 1 h A xs) (hl : xs.length < 1000000) :
  CallsH Tryz.prog 146 [.slice A xs.length c, .int .i64 v] h fun r h' => r = .int .i64 (ixI xs v) ∧ h' = h := by
 (refine eK c_slices_Index_int_int (l_a rfl) fun K hK => ?_; (try simp (disch := first|omega|assumption|exact l_a rfl) only [go_sem, ↓wBk, simprocAttr, ir_slices_Index_int_int]))
 refine lI (fun ρ h' => h' = h ∧ ρ 0 = .slice A xs.length c ∧ ρ 1 = .int .i64 v ∧ ρ 7 = .int .i64 xs.length ∧ ∃ i : Nat, ρ 8 = .int .i64 i ∧ i ≤ xs.length ∧ ∀ j, j < i → xs.getD j 0 ≠ v) (fun ρ _ => xs.length - (iv (ρ 8)).toNat) ?_ ?_
 ·(try simp (disch := first|omega|assumption|exact l_a rfl) only [go_sem, ↓wBk, simprocAttr])
  exact ⟨0, rfl, by omega, fun j hj => absurd hj (by omega)⟩
 rintro ρ h' J hJ ⟨rfl, e0, e1, e7, i, e8, hi, hn⟩
 (try simp (disch := first|omega|assumption|exact l_a rfl) only [go_sem, ↓wBk, simprocAttr, e7, e8])
 refine cD (fun hlt => ?_) (fun hlt => ?_)
 ·have hil : i < xs.length := by omega
  obtain ⟨b1, o1, hA, q1⟩ := ha.at hil
  have q1 := rP0 q1 (by omega)
  simp only [zEnc, l_o, Nat.mul_one] at q1
  rw [← getD_at] at q1
  by_cases hv : v = xs.getD i 0
  ·(try simp (disch := first|omega|assumption|exact l_a rfl) only [go_sem, ↓wBk, simprocAttr, e0, e1, e8, hA, q1, Nat.mul_one, ← hv])
   refine hK _ _ ⟨?_, rfl⟩
   rw [ixI, ixI_some hil hn hv.symm]
  ·(try simp (disch := first|omega|assumption|exact l_a rfl) only [go_sem, ↓wBk, simprocAttr, e0, e1, e8, hA, q1, Nat.mul_one])
   refine hJ _ _ ?_ ?_
   ·(try simp (disch := first|omega|assumption|exact l_a rfl) only [go_sem, ↓wBk, simprocAttr, e0, e1, e7, hA])
    refine ⟨i + 1, rfl, by omega, fun j hj => ?_⟩
    by_cases e : j = i
    ·rw [e]; exact fun h => hv h.symm
    ·exact hn j (by omega)
   ·(try simp (disch := first|omega|assumption|exact l_a rfl) only [go_sem, ↓wBk, simprocAttr, e8])
    omega
 obtain rfl : i = xs.length := by omega
 (try simp (disch := first|omega|assumption|exact l_a rfl) only [go_sem, ↓wBk, simprocAttr])
 refine hK _ _ ⟨?_, rfl⟩
 rw [ixI, ixI_none]
 intro hm
 obtain ⟨j, hj, rfl⟩ := l_af hm
 exact hn j hj (getD_at hj)
theorem ixI_mem (xs : List Int) (v : Int) : 0 ≤ ixI xs v ↔ v ∈ xs := by
 unfold ixI
 cases h : xs.findIdx? (fun u => decide (u = v)) with
 | none =>
  rw [List.findIdx?_eq_none_iff] at h
  constructor
  ·intro h'; exact absurd h' (by decide)
  ·intro hm; have := h v hm; simp at this
 | some i =>
  rw [List.findIdx?_eq_some_iff_getElem] at h
  obtain ⟨hi, h1, _⟩ := h
  constructor
  ·intro _
   have : xs[i] = v := by simpa using h1
   exact this ▸ l_v hi
  ·intro _; exact Int.natCast_nonneg _
theorem ContainsI_ok {h : Heap} {A : Option Addr} {c : Nat} {xs : List Int} (v : Int) (ha : Arr zEnc 1 h A xs) (hl : xs.length < 1000000) :
  CallsH Tryz.prog 116 [.slice A xs.length c, .int .i64 v] h fun r h' => r = .bool (dcd (v ∈ xs)) ∧ h' = h := by
 (refine eK c_slices_Contains_int_int (l_a rfl) fun K hK => ?_; (try simp (disch := first|omega|assumption|exact l_a rfl) only [go_sem, ↓wBk, simprocAttr, ir_slices_Contains_int_int]))
 refine cI (Index_ok v ha hl) ?_
 rintro _ _ ⟨rfl, rfl⟩
 have hm := ixI_mem xs v
 by_cases hv : v ∈ xs
 ·have h0 := hm.2 hv
  (try simp (disch := first|omega|assumption|exact l_a rfl) only [go_sem, ↓wBk, simprocAttr])
  exact hK _ _ ⟨by rw [dT hv], rfl⟩
 ·have h0 : ¬ 0 ≤ ixI xs v := fun h => hv (hm.1 h)
  (try simp (disch := first|omega|assumption|exact l_a rfl) only [go_sem, ↓wBk, simprocAttr])
  exact hK _ _ ⟨by rw [dF hv], rfl⟩
theorem ways_ok (a : Int) {h0 h : Heap} {l : List HP} (S : St h0 h l) : CallsH Tryz.prog 150 [.int .i64 a] h fun v h' => ∃ A c xs, v = .slice A xs.length c ∧ xs.length < 10 ∧ (∀ b, b ∈ xs ↔ mayK a b) ∧ St h0 h' (ownA zEnc 1 3 v xs :: l) := by
 have z2 : ∀ z : Value, zerosL [z] 2 = [z, z] := fun _ => rfl
 by_cases a0 : a = 0
 ·subst a0
  (refine eK c_stock_ways (l_a rfl) fun K hK => ?_; (try simp (disch := first|omega|assumption|exact l_a rfl) only [go_sem, ↓wBk, simprocAttr, ir_stock_ways]))
  (refine tA S ?_; clear S; intro q h S; (try simp only [sC, sN, l_h, l_i, Nat.zero_add, Nat.reduceAdd, l_j, l_k] at S); ((try clear F); have F := S.all; (try simp only [aC, aN, yC, and_true] at F)))
  have S := S.cellOwn (enc := zEnc) (sz := 1) (ys := [1]) zEl rfl (by decide)
  (try simp (disch := first|omega|assumption|exact l_a rfl) only [go_sem, ↓wBk, simprocAttr])
  exact hK _ _ ⟨_, _, [1], rfl, by decide, fun b => by simp [mayK], S⟩
 by_cases a1 : a = 1
 ·subst a1
  (refine eK c_stock_ways (l_a rfl) fun K hK => ?_; (try simp (disch := first|omega|assumption|exact l_a rfl) only [go_sem, ↓wBk, simprocAttr, ir_stock_ways]))
  (try simp (disch := first|omega|assumption|exact l_a rfl) only [go_sem, ↓wBk, simprocAttr, z2])
  (refine tA S ?_; clear S; intro q h S; (try simp only [sC, sN, l_h, l_i, Nat.zero_add, Nat.reduceAdd, l_j, l_k] at S); ((try clear F); have F := S.all; (try simp only [aC, aN, yC, and_true] at F)))
  have S := S.cellOwn (enc := zEnc) (sz := 1) (ys := [2, 6]) zEl rfl (by decide)
  (try simp (disch := first|omega|assumption|exact l_a rfl) only [go_sem, ↓wBk, simprocAttr])
  exact hK _ _ ⟨_, _, [2, 6], rfl, by decide, fun b => by simp [mayK], S⟩
 have z4 : ∀ z : Value, zerosL [z] 4 = [z, z, z, z] := fun _ => rfl
 by_cases a2 : a = 2
 ·subst a2
  (refine eK c_stock_ways (l_a rfl) fun K hK => ?_; (try simp (disch := first|omega|assumption|exact l_a rfl) only [go_sem, ↓wBk, simprocAttr, ir_stock_ways]))
  (try simp (disch := first|omega|assumption|exact l_a rfl) only [go_sem, ↓wBk, simprocAttr, z4])
  (refine tA S ?_; clear S; intro q h S; (try simp only [sC, sN, l_h, l_i, Nat.zero_add, Nat.reduceAdd, l_j, l_k] at S); ((try clear F); have F := S.all; (try simp only [aC, aN, yC, and_true] at F)))
  have S := S.cellOwn (enc := zEnc) (sz := 1) (ys := [3, 4, 5, 8]) zEl rfl (by decide)
  (try simp (disch := first|omega|assumption|exact l_a rfl) only [go_sem, ↓wBk, simprocAttr])
  exact hK _ _ ⟨_, _, [3, 4, 5, 8], rfl, by decide, fun b => by simp [mayK], S⟩
 by_cases a3 : a = 3
 ·subst a3
  (refine eK c_stock_ways (l_a rfl) fun K hK => ?_; (try simp (disch := first|omega|assumption|exact l_a rfl) only [go_sem, ↓wBk, simprocAttr, ir_stock_ways]))
  (refine tA S ?_; clear S; intro q h S; (try simp only [sC, sN, l_h, l_i, Nat.zero_add, Nat.reduceAdd, l_j, l_k] at S); ((try clear F); have F := S.all; (try simp only [aC, aN, yC, and_true] at F)))
  have S := S.cellOwn (enc := zEnc) (sz := 1) (ys := [7]) zEl rfl (by decide)
  (try simp (disch := first|omega|assumption|exact l_a rfl) only [go_sem, ↓wBk, simprocAttr])
  exact hK _ _ ⟨_, _, [7], rfl, by decide, fun b => by simp [mayK], S⟩
 by_cases a7 : a = 7
 ·subst a7
  (refine eK c_stock_ways (l_a rfl) fun K hK => ?_; (try simp (disch := first|omega|assumption|exact l_a rfl) only [go_sem, ↓wBk, simprocAttr, ir_stock_ways]))
  (try simp (disch := first|omega|assumption|exact l_a rfl) only [go_sem, ↓wBk, simprocAttr, z2])
  (refine tA S ?_; clear S; intro q h S; (try simp only [sC, sN, l_h, l_i, Nat.zero_add, Nat.reduceAdd, l_j, l_k] at S); ((try clear F); have F := S.all; (try simp only [aC, aN, yC, and_true] at F)))
  have S := S.cellOwn (enc := zEnc) (sz := 1) (ys := [3, 8]) zEl rfl (by decide)
  (try simp (disch := first|omega|assumption|exact l_a rfl) only [go_sem, ↓wBk, simprocAttr])
  exact hK _ _ ⟨_, _, [3, 8], rfl, by decide, fun b => by simp [mayK], S⟩
 by_cases a8 : a = 8
 ·subst a8
  (refine eK c_stock_ways (l_a rfl) fun K hK => ?_; (try simp (disch := first|omega|assumption|exact l_a rfl) only [go_sem, ↓wBk, simprocAttr, ir_stock_ways]))
  (try simp (disch := first|omega|assumption|exact l_a rfl) only [go_sem, ↓wBk, simprocAttr, z2])
  (refine tA S ?_; clear S; intro q h S; (try simp only [sC, sN, l_h, l_i, Nat.zero_add, Nat.reduceAdd, l_j, l_k] at S); ((try clear F); have F := S.all; (try simp only [aC, aN, yC, and_true] at F)))
  have S := S.cellOwn (enc := zEnc) (sz := 1) (ys := [0, 6]) zEl rfl (by decide)
  (try simp (disch := first|omega|assumption|exact l_a rfl) only [go_sem, ↓wBk, simprocAttr])
  exact hK _ _ ⟨_, _, [0, 6], rfl, by decide, fun b => by simp [mayK], S⟩
 (refine eK c_stock_ways (l_a rfl) fun K hK => ?_; (try simp (disch := first|omega|assumption|exact l_a rfl) only [go_sem, ↓wBk, simprocAttr, ir_stock_ways]))
 (try simp (disch := first|omega|assumption|exact l_a rfl) only [go_sem, ↓wBk, simprocAttr])
 exact hK _ _ ⟨none, 0, [], rfl, by decide, fun b => by simp [mayK, a0, a1, a2, a3, a7, a8], S.nilS⟩
theorem May_ok (a b : Int) (h : Heap) : CallsH Tryz.prog 115 [.int .i64 a, .int .i64 b] h fun v h' => v = .bool (dcd (mayK a b)) ∧ Fr h h' [] := by
 have S := St.nil h
 (refine eK c_stock_May (l_a rfl) fun K hK => ?_; (try simp (disch := first|omega|assumption|exact l_a rfl) only [go_sem, ↓wBk, simprocAttr, ir_stock_May]))
 refine cI (ways_ok a S) ?_
 clear S
 rintro _ h ⟨A, c, xs, rfl, hl, hm, S⟩
 (try simp (disch := first|omega|assumption|exact l_a rfl) only [go_sem, ↓wBk, simprocAttr])
 refine cI (ContainsI_ok b (S.arr zEl) (by omega)) ?_
 rintro _ _ ⟨rfl, rfl⟩
 (try simp (disch := first|omega|assumption|exact l_a rfl) only [go_sem, ↓wBk, simprocAttr])
 refine hK _ _ ⟨?_, S.fr⟩
 by_cases hb : mayK a b
 ·rw [dT hb, dT ((hm b).2 hb)]
 ·rw [dF hb, dF fun h => hb ((hm b).1 h)]
section
variable {h0 h : Heap} {l : List HP} {k : Nat} {Ks : List KU}
theorem Move_ok (n to : Int) (S : St h0 h (stockA k Ks :: l)) (hl : Ks.length < 1000000) : CallsH Tryz.prog 77 [.pointer (some ⟨k, 0, none⟩), .int .i64 n, .int .i64 to] h fun v h' => v = .int .i64 (moveE Ks n to) ∧ St h0 h' (stockA k (moveK Ks n to) :: l) := by
 by_cases h1 : 0 ≤ n ∧ n < Ks.length
 case neg =>
  have e : moveE Ks n to = 7 := if_neg h1
  have e2 : moveK Ks n to = Ks := by rw [moveK, e]; rfl
  rw [e, e2]
  (refine eK c_stock_Stock_Move (l_a rfl) fun K hK => ?_; (try simp (disch := first|omega|assumption|exact l_a rfl) only [go_sem, ↓wBk, simprocAttr, ir_stock_Stock_Move]))
  refine cI (has_ok _ S) ?_
  rintro _ _ ⟨rfl, rfl⟩
  rw [dF h1]
  (try simp (disch := first|omega|assumption|exact l_a rfl) only [go_sem, ↓wBk, simprocAttr])
  exact hK _ _ ⟨rfl, S⟩
 obtain ⟨i, rfl⟩ := l_u h1.1
 have hi : i < Ks.length := by omega
 have hpl : placeK Ks (i : Int) = Ks[i].place := by
  rw [placeK, if_pos h1.1, l_ap, l_r hi]; rfl
 have hgd : Ks.getD i KU0 = Ks[i] := by rw [l_s, l_r hi]; rfl
 by_cases h2 : mayK Ks[i].place to
 case neg =>
  have e : moveE Ks i to = 8 := by rw [moveE, if_pos h1, hpl, if_neg h2]
  have e2 : moveK Ks i to = Ks := by rw [moveK, e]; rfl
  rw [e, e2]
  (refine eK c_stock_Stock_Move (l_a rfl) fun K hK => ?_; (try simp (disch := first|omega|assumption|exact l_a rfl) only [go_sem, ↓wBk, simprocAttr, ir_stock_Stock_Move]))
  refine cI (has_ok _ S) ?_
  rintro _ _ ⟨rfl, rfl⟩
  rw [dT h1]
  obtain ⟨s, S⟩ := St.stk.1 S
  obtain ⟨A, c, rfl⟩ := S.p1.sl
  obtain ⟨b, rfl⟩ := S.p1.ownAt (by omega)
  have hp := own_part KU.enc_len S.p1 (i := i) (j := 0) hi (by omega)
  simp only [KU.enc, l_o, Nat.add_zero] at hp
  ((try clear F); have F := S.all; (try simp only [aC, aN, yC, and_true] at F))
  (try simp (disch := first|omega|assumption|exact l_a rfl) only [go_sem, ↓wBk, simprocAttr, F, hp])
  refine cI (May_ok _ _ _) ?_
  rintro _ h ⟨rfl, f1⟩
  rw [dF h2]
  (try simp (disch := first|omega|assumption|exact l_a rfl) only [go_sem, ↓wBk, simprocAttr])
  exact hK _ _ ⟨rfl, St.stk.2 ⟨_, S.frame f1⟩⟩
 have e : moveE Ks i to = 0 := by rw [moveE, if_pos h1, hpl, if_pos h2]
 have e2 : moveK Ks i to = Ks.set i (movU Ks[i] to) := by rw [moveK, if_pos e, l_ap, hgd]
 rw [e, e2]
 (refine eK c_stock_Stock_Move (l_a rfl) fun K hK => ?_; (try simp (disch := first|omega|assumption|exact l_a rfl) only [go_sem, ↓wBk, simprocAttr, ir_stock_Stock_Move]))
 refine cI (has_ok _ S) ?_
 rintro _ _ ⟨rfl, rfl⟩
 rw [dT h1]
 obtain ⟨s, S⟩ := St.stk.1 S
 obtain ⟨A, c, rfl⟩ := S.p1.sl
 obtain ⟨b, rfl⟩ := S.p1.ownAt (by omega)
 rcases hx : Ks[i] with ⟨pl, sk, rv, gr⟩
 rw [hx] at h2
 have rdK : ∀ {h' : Heap} {M : List HP} {K' : List KU} (hK' : i < K'.length) {y : KU}, K'[i] = y → St h0 h' (ownA KU.enc 4 103 (.slice (some ⟨b, 0, none⟩) Ks.length c) K' :: M) → rd1 h' (.pointer (some ⟨b, i * 4, none⟩)) = some (.int .i64 y.place) ∧ rd1 h' (.pointer (some ⟨b, i * 4 + 2, none⟩)) = some (.bool y.recv) ∧ rd1 h' (.pointer (some ⟨b, i * 4 + 3, none⟩)) = some (.bool y.grad) := fun {h' M K'} hK' {y} hy S => by
  have hp := own_part KU.enc_len S (i := i) (j := 0) hK' (by omega)
  have hq := own_part KU.enc_len S (i := i) (j := 2) hK' (by omega)
  have hr := own_part KU.enc_len S (i := i) (j := 3) hK' (by omega)
  simp only [KU.enc, l_o, l_p, Nat.add_zero, hy] at hp hq hr
  exact ⟨hp, hq, hr⟩
 have R0 := rdK hi hx S.p1
 ((try clear F); have F := S.all; (try simp only [aC, aN, yC, and_true] at F))
 (try simp (disch := first|omega|assumption|exact l_a rfl) only [go_sem, ↓wBk, simprocAttr, F, R0.1])
 refine cI (May_ok _ _ _) ?_
 rintro _ h ⟨rfl, f1⟩
 have S := S.frame f1
 clear f1 R0
 rw [dT h2]
 have hm : movU ⟨pl, sk, rv, gr⟩ to = ⟨to, sk, rv || decide (to = 2), gr || decide (pl = 2)⟩ := rfl
 have S : St h0 h (ownA KU.enc 4 103 (.slice (some ⟨b, 0, none⟩) Ks.length c) Ks :: cellA k [.slice (some ⟨b, 0, none⟩) Ks.length c] 105 :: l) := S.p1
 have R1 := rdK hi hx S
 have fin : ∀ (rv' gr' : Bool), rv' = (rv || decide (to = 2)) → gr' = (gr || decide (pl = 2)) → (((Ks.set i ⟨pl, sk, rv', gr⟩).set i ⟨pl, sk, rv', gr'⟩).set i ⟨to, sk, rv', gr'⟩) = Ks.set i (movU ⟨pl, sk, rv, gr⟩ to) := fun rv' gr' h1 h2 => by
  rw [hm, h1, h2, List.set_set, List.set_set]
 obtain ⟨rv', hrv⟩ : ∃ rv', rv' = (rv || decide (to = 2)) := ⟨_, rfl⟩
 obtain ⟨gr', hgr⟩ : ∃ gr', gr' = (gr || decide (pl = 2)) := ⟨_, rfl⟩
 have go : ∀ {v : Value} {Q : Value → Heap → Prop} {s : Tag h} {t : Tag Q}, v = .bool rv' → (∀ h', St h0 h' (ownA KU.enc 4 103 (.slice (some ⟨b, 0, none⟩) Ks.length c) (Ks.set i ⟨pl, sk, rv', gr⟩) :: cellA k [.slice (some ⟨b, 0, none⟩) Ks.length c] 105 :: l) → Q undef h') → storeT 1 (.pointer (some ⟨b, i * 4 + 2, none⟩)) [v] h Q s t := fun {v Q s t} hv hk => by
  subst hv
  exact st_setPart KU.enc_len (i := i) (j := 2) (x := ⟨pl, sk, rv', gr⟩) S hi rfl (by simp) rfl rfl (by rw [hx]; rfl) hk
 have go2 : ∀ {h : Heap} {v : Value} {Q : Value → Heap → Prop} {s : Tag h} {t : Tag Q}, St h0 h (ownA KU.enc 4 103 (.slice (some ⟨b, 0, none⟩) Ks.length c) (Ks.set i ⟨pl, sk, rv', gr⟩) :: cellA k [.slice (some ⟨b, 0, none⟩) Ks.length c] 105 :: l) → v = .bool gr' → (∀ h', St h0 h' (ownA KU.enc 4 103 (.slice (some ⟨b, 0, none⟩) Ks.length c) ((Ks.set i ⟨pl, sk, rv', gr⟩).set i ⟨pl, sk, rv', gr'⟩) :: cellA k [.slice (some ⟨b, 0, none⟩) Ks.length c] 105 :: l) → Q undef h') → storeT 1 (.pointer (some ⟨b, i * 4 + 3, none⟩)) [v] h Q s t := fun {h v Q s t} S hv hk => by
  subst hv
  exact st_setPart KU.enc_len (i := i) (j := 3) (x := ⟨pl, sk, rv', gr'⟩) S (by rw [l_ak]; exact hi) rfl (by simp) rfl rfl (by simp only [List.getElem_set_self]; rfl) hk
 have tail : ∀ {h : Heap} {Q : Value → Heap → Prop} {s : Tag h} {t : Tag Q}, St h0 h (ownA KU.enc 4 103 (.slice (some ⟨b, 0, none⟩) Ks.length c) ((Ks.set i ⟨pl, sk, rv', gr⟩).set i ⟨pl, sk, rv', gr'⟩) :: cellA k [.slice (some ⟨b, 0, none⟩) Ks.length c] 105 :: l) → (∀ h', St h0 h' (stockA k (Ks.set i (movU ⟨pl, sk, rv, gr⟩ to)) :: l) → Q undef h') → storeT 1 (.pointer (some ⟨b, i * 4, none⟩)) [.int .i64 to] h Q s t := fun {h Q s t} S hk => by
  refine st_setPart KU.enc_len (i := i) (j := 0) (x := ⟨to, sk, rv', gr'⟩) S (by rw [l_ak, l_ak]; exact hi) rfl (by simp) rfl rfl (by simp only [List.getElem_set_self]; rfl) ?_
  intro h' S'
  rw [fin rv' gr' hrv hgr] at S'
  exact hk _ (St.stk.2 ⟨_, S'.p1⟩)
 clear fin S
 have c1 : (rv = true) ∨ (rv = false ∧ to = 2) ∨ (rv = false ∧ ¬ to = 2) := by
  cases rv
  ·by_cases h : to = 2
   ·exact .inr (.inl ⟨rfl, h⟩)
   ·exact .inr (.inr ⟨rfl, h⟩)
  ·exact .inl rfl
 have c2 : (gr = true) ∨ (gr = false ∧ pl = 2) ∨ (gr = false ∧ ¬ pl = 2) := by
  cases gr
  ·by_cases h : pl = 2
   ·exact .inr (.inl ⟨rfl, h⟩)
   ·exact .inr (.inr ⟨rfl, h⟩)
  ·exact .inl rfl
 obtain ⟨_, R2, R3⟩ := R1
 rcases c1 with c1 | ⟨c1, d1⟩ | ⟨c1, d1⟩ <;> (
  rw [c1] at R2
  (try simp (disch := first|omega|assumption|exact l_a rfl) only [go_sem, ↓wBk, simprocAttr, R2])
  refine go (by rw [hrv, c1]; simp_all) ?_
  clear R2 R3 go
  intro h S
  obtain ⟨R1, _, R3⟩ := rdK (K' := Ks.set i ⟨pl, sk, rv', gr⟩) (y := ⟨pl, sk, rv', gr⟩) (by rw [l_ak]; exact hi) (by simp) S
  rcases c2 with c2 | ⟨c2, d2⟩ | ⟨c2, d2⟩ <;> (
   simp only at R1 R3
   rw [c2] at R3
   (try simp (disch := first|omega|assumption|exact l_a rfl) only [go_sem, ↓wBk, simprocAttr, R1, R3])
   refine go2 S (by rw [hgr, c2]; simp_all) ?_
   clear S R1 R3
   intro h S
   (try simp (disch := first|omega|assumption|exact l_a rfl) only [go_sem, ↓wBk, simprocAttr])
   refine tail S ?_
   intro h S
   (try simp (disch := first|omega|assumption|exact l_a rfl) only [go_sem, ↓wBk, simprocAttr])
   exact hK _ _ ⟨rfl, by rw [hx]; exact S⟩))
end
end
end Go.Proofs.YtijnkebgciaieaaGreat.MX
