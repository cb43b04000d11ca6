import Derived.Test.YtijnkebgciaieaaGreatK35
namespace Go.Proofs.YtijnkebgciaieaaGreat.MX
open Go Go.Proofs
set_option linter.unusedSimpArgs false
set_option linter.unusedVariables false
section
set_option maxHeartbeats 8000000
theorem findG_no {α : Type} {p : α → Bool} {L : List α} (hp : ∀ x ∈ L, p x = false) : L.find? p = none := List.find?_eq_none.2 fun x hx => by simp [hp x hx]
theorem findG_at {α : Type} {p : α → Bool} : ∀ {L : List α} {i : Nat} (hi : i < L.length), (∀ x ∈ L.take i, p x = false) → p L[i] = true → L.find? p = some L[i]
 | [], i, hi, _, _ => absurd hi (by simp)
 | x :: L, 0, _, _, h => by simp only [List.getElem_cons_zero] at h ⊢; rw [List.find?_cons, h]
 | x :: L, i + 1, hi, h1, h2 => by
  have hx : p x = false := h1 x (by simp)
  simp only [List.getElem_cons_succ] at h2 ⊢
  rw [List.find?_cons, hx]
  exact findG_at (by simpa using hi) (fun y hy => h1 y (by simp [hy])) h2
theorem rMay_ok (p : Pol) (days : Int) (wants : Bool) (hp : p.right) (h : Heap) : CallsH Tryz.prog 96 [.agg p.enc.toArray, .int .i64 days, .bool wants] h fun v h' => v = .int .i64 (mayP p days wants) ∧ Fr h h' [] := by
 have S := St.nil h
 have hd : mayP p days wants = if p.fin = true ∨ p.exc = true ∧ wants = false then 12 else if days < 0 ∨ p.w < days then 11 else 0 := rfl
 rcases p with ⟨w, fin, exc, cre, f0, f1, f2, f3, s0, t0, s1, t1, s2, t2, s3, t3⟩
 simp only at hd
 (refine eK c_rule_May (l_a rfl) fun K hK => ?_; (try simp (disch := first|omega|assumption|exact l_a rfl) only [go_sem, ↓wBk, simprocAttr, ir_rule_May]))
 (refine tA S ?_; clear S; intro b h S; (try simp only [sC, sN, l_h, l_i, Nat.zero_add, Nat.reduceAdd, l_j, l_k] at S); ((try clear F); have F := S.all; (try simp only [aC, aN, yC, and_true] at F)))
 (try simp (disch := first|omega|assumption|exact l_a rfl) only [go_sem, ↓wBk, simprocAttr, F, Pol.enc])
 refine cI (rright_ok (⟨w, fin, exc, cre, f0, f1, f2, f3, s0, t0, s1, t1, s2, t2, s3, t3⟩ : Pol) _) ?_
 rintro _ h ⟨rfl, g1⟩
 have S := S.frame g1
 rw [dT hp]
 ((try clear F); have F := S.all; (try simp only [aC, aN, yC, and_true] at F))
 have fin2 : ∀ (days : Int), (if days < 0 ∨ w < days then (11 : Int) else 0) = (if days < 0 ∨ w < days then 11 else 0) := fun _ => rfl
 cases fin
 ·cases exc
  ·rw [if_neg (by simp)] at hd
   by_cases d1 : days < 0
   ·rw [if_pos (.inl d1)] at hd
    (try simp (disch := first|omega|assumption|exact l_a rfl) only [go_sem, ↓wBk, simprocAttr, F, Pol.enc])
    exact hK _ _ ⟨by rw [hd], S.fr⟩
   by_cases d2 : w < days
   ·rw [if_pos (.inr d2)] at hd
    (try simp (disch := first|omega|assumption|exact l_a rfl) only [go_sem, ↓wBk, simprocAttr, F, Pol.enc])
    exact hK _ _ ⟨by rw [hd], S.fr⟩
   rw [if_neg (fun h => h.elim d1 d2)] at hd
   (try simp (disch := first|omega|assumption|exact l_a rfl) only [go_sem, ↓wBk, simprocAttr, F, Pol.enc])
   exact hK _ _ ⟨by rw [hd], S.fr⟩
  ·cases wants
   ·rw [if_pos (by simp)] at hd
    (try simp (disch := first|omega|assumption|exact l_a rfl) only [go_sem, ↓wBk, simprocAttr, F, Pol.enc])
    exact hK _ _ ⟨by rw [hd], S.fr⟩
   ·rw [if_neg (by simp)] at hd
    by_cases d1 : days < 0
    ·rw [if_pos (.inl d1)] at hd
     (try simp (disch := first|omega|assumption|exact l_a rfl) only [go_sem, ↓wBk, simprocAttr, F, Pol.enc])
     exact hK _ _ ⟨by rw [hd], S.fr⟩
    by_cases d2 : w < days
    ·rw [if_pos (.inr d2)] at hd
     (try simp (disch := first|omega|assumption|exact l_a rfl) only [go_sem, ↓wBk, simprocAttr, F, Pol.enc])
     exact hK _ _ ⟨by rw [hd], S.fr⟩
    rw [if_neg (fun h => h.elim d1 d2)] at hd
    (try simp (disch := first|omega|assumption|exact l_a rfl) only [go_sem, ↓wBk, simprocAttr, F, Pol.enc])
    exact hK _ _ ⟨by rw [hd], S.fr⟩
 ·rw [if_pos (.inl rfl)] at hd
  (try simp (disch := first|omega|assumption|exact l_a rfl) only [go_sem, ↓wBk, simprocAttr, F, Pol.enc])
  exact hK _ _ ⟨by rw [hd], S.fr⟩
section
variable {h0 h : Heap} {l : List HP} {k : Nat} {Ks : List KU}
theorem PickK_ok (sku : Int) (S : St h0 h (stockA k Ks :: l)) (hl : Ks.length < 1000000) : CallsH Tryz.prog 98 [.pointer (some ⟨k, 0, none⟩), .int .i64 sku] h fun v h' =>
  (pickI Ks sku = none ∧ v = .tuple #[.int .i64 0, .int .i64 14] ∧ St h0 h' (stockA k Ks :: l)) ∨ ∃ j : Nat, pickI Ks sku = some j ∧ v = .tuple #[.int .i64 j, .int .i64 0] ∧ St h0 h' (stockA k (Ks.set j { Ks.getD j KU0 with place := 7 }) :: l) := by
 obtain ⟨s, S⟩ := St.stk.1 S
 obtain ⟨A, c, rfl⟩ := S.p1.sl
 ((try clear F); have F := S.all; (try simp only [aC, aN, yC, and_true] at F))
 (refine eK c_stock_Stock_Pick (l_a rfl) fun K hK => ?_; (try simp (disch := first|omega|assumption|exact l_a rfl) only [go_sem, ↓wBk, simprocAttr, ir_stock_Stock_Pick]))
 (try simp (disch := first|omega|assumption|exact l_a rfl) only [go_sem, ↓wBk, simprocAttr, F])
 refine lI (fun ρ h' => ρ 0 = .pointer (some ⟨k, 0, none⟩) ∧ ρ 1 = .int .i64 sku ∧ ρ 13 = .slice A Ks.length c ∧ ρ 14 = .int .i64 Ks.length ∧ ∃ i : Nat, ρ 15 = .int .i64 i ∧ i ≤ Ks.length ∧ (∀ j (hj : j < Ks.length), j < i → ¬ (Ks[j].place = 3 ∧ Ks[j].sku = sku)) ∧
  St h0 h' (cellA k [.slice A Ks.length c] 105 :: ownA KU.enc 4 103 (.slice A Ks.length c) Ks :: l)) (fun ρ _ => Ks.length - (iv (ρ 15)).toNat) ?_ ?_
 ·(try simp (disch := first|omega|assumption|exact l_a rfl) only [go_sem, ↓wBk, simprocAttr])
  exact ⟨0, rfl, by omega, fun j hj h => absurd h (by omega), S⟩
 clear S F
 rintro ρ h J hJ ⟨e0, e1, e13, e14, i, e15, hi, hno, S⟩
 (try simp (disch := first|omega|assumption|exact l_a rfl) only [go_sem, ↓wBk, simprocAttr, e14, e15])
 refine cD (fun hlt => ?_) (fun hlt => ?_)
 ·have hil : i < Ks.length := by omega
  obtain ⟨b1, o1, rfl, q1⟩ := (S.p1.arr KU.enc_len).at hil
  obtain ⟨b', hb'⟩ := S.p1.ownAt (by omega)
  cases hb'
  rw [Nat.zero_add] at q1
  have hgd : Ks.getD i KU0 = Ks[i] := by rw [l_s, l_r hil]; rfl
  have hsn : ¬ (Ks[i].place = 3 ∧ Ks[i].sku = sku) → ∀ j (hj : j < Ks.length), j < i + 1 → ¬ (Ks[j].place = 3 ∧ Ks[j].sku = sku) := fun hx j hj hji => by
   by_cases e : j = i
   ·subst e; exact hx
   ·exact hno j hj (by omega)
  have hfind : (Ks[i].place = 3 ∧ Ks[i].sku = sku) → pickI Ks sku = some i := fun hx => by
   unfold pickI
   rw [List.findIdx?_eq_some_iff_getElem]
   refine ⟨hil, by simp [hx], fun j hj => ?_⟩
   have := hno j (by omega) hj
   simp only [decide_eq_true_eq]
   exact this
  obtain ⟨x, hx⟩ : ∃ x, x = Ks[i] := ⟨_, rfl⟩
  rw [← hx] at q1 hsn hfind hgd
  (try simp (disch := first|omega|assumption|exact l_a rfl) only [go_sem, ↓wBk, simprocAttr, e13, e15, q1])
  (refine tA S ?_; clear S; intro q h S; (try simp only [sC, sN, l_h, l_i, Nat.zero_add, Nat.reduceAdd, l_j, l_k] at S); ((try clear F); have F := S.all; (try simp only [aC, aN, yC, and_true] at F)))
  (try simp (disch := first|omega|assumption|exact l_a rfl) only [go_sem, ↓wBk, simprocAttr, F, KU.enc])
  (refine tS (by first | exact S | exact S.p1 | exact S.p2 | exact S.p3 | exact S.p4 | exact S.p5 | exact S.p6 | exact S.p7 | exact S.p8 | exact S.p9 | exact S.p10 | exact S.p11) (by rfl) (by rfl) (l_a rfl) ?_; clear S; intro h S; (try simp only [sC, sN, l_h, l_i, Nat.zero_add, Nat.reduceAdd, l_j, l_k] at S); ((try clear F); have F := S.all; (try simp only [aC, aN, yC, and_true] at F)))
  by_cases k1 : x.place = 3
  case neg =>
   (try simp (disch := first|omega|assumption|exact l_a rfl) only [go_sem, ↓wBk, simprocAttr, F, e15])
   refine hJ _ _ ?_ ?_
   ·(try simp (disch := first|omega|assumption|exact l_a rfl) only [go_sem, ↓wBk, simprocAttr, e0, e1, e13, e14])
    exact ⟨i + 1, rfl, by omega, hsn fun h => k1 h.1, S.tl⟩
   ·(try simp (disch := first|omega|assumption|exact l_a rfl) only [go_sem, ↓wBk, simprocAttr, e15])
    omega
  by_cases k2 : x.sku = sku
  case neg =>
   (try simp (disch := first|omega|assumption|exact l_a rfl) only [go_sem, ↓wBk, simprocAttr, F, e1, e15])
   refine hJ _ _ ?_ ?_
   ·(try simp (disch := first|omega|assumption|exact l_a rfl) only [go_sem, ↓wBk, simprocAttr, e0, e1, e13, e14])
    exact ⟨i + 1, rfl, by omega, hsn fun h => k2 h.2, S.tl⟩
   ·(try simp (disch := first|omega|assumption|exact l_a rfl) only [go_sem, ↓wBk, simprocAttr, e15])
    omega
  (try simp (disch := first|omega|assumption|exact l_a rfl) only [go_sem, ↓wBk, simprocAttr, F, e0, e1, e15])
  refine st_setPart KU.enc_len (i := i) (j := 0) (x := { x with place := 7 }) S.p2 hil (by omega) (by simp) rfl rfl (by rw [← hx]; rfl) ?_
  clear S F q1
  intro h S
  (try simp (disch := first|omega|assumption|exact l_a rfl) only [go_sem, ↓wBk, simprocAttr])
  refine hK _ _ (.inr ⟨i, hfind ⟨k1, k2⟩, rfl, ?_⟩)
  rw [hgd]
  have e : (Ks.set i { x with place := 7 }).length = Ks.length := l_ak
  exact St.stk.2 ⟨_, S.d1.p1⟩
 obtain rfl : i = Ks.length := by omega
 (try simp (disch := first|omega|assumption|exact l_a rfl) only [go_sem, ↓wBk, simprocAttr])
 refine hK _ _ (.inl ⟨?_, rfl, St.stk.2 ⟨_, S⟩⟩)
 unfold pickI
 rw [List.findIdx?_eq_none_iff]
 intro x hx
 obtain ⟨j, hj, rfl⟩ := l_af hx
 have := hno j hj hj
 simp only [decide_eq_false_iff_not]
 exact this
end
section
variable {h0 h : Heap} {l : List HP} {L : Loc} {D : Cfg} {u : Value} {w : Wk} {U : List Unt} {m b i : Nat}
def resW (h0 : Heap) (L : Loc) (D : Cfg) (u : Value) (l : List HP) (x : Except Int (Int × Wk)) (v : Value) (h' : Heap) : Prop := match x with
 | .error e => e ≠ 0 ∧ v = .tuple #[.int .i64 0, .int .i64 e] ∧ St h0 h' l
 | .ok y => v = .tuple #[.int .i64 y.1, .int .i64 0] ∧ St h0 h' (wkA L D u y.2 :: l)
theorem wanted_ok (sku : Int) (hc : ∀ h', St h0 h' l → D.rd h') (hD : Stc D U) (S : St h0 h (wkA L D u w :: l)) (W : w.wf U m) : CallsH Tryz.prog 63 [.pointer (some ⟨L.p, 0, none⟩), .int .i64 sku] h fun v h' => resW h0 L D u l (wantedP D.ss w sku) v h' := by
 have hss := hD.cfg.len.2.1
 have hkl := W.kl
 have hul := hD.ul
 have hd : wantedP D.ss w sku = if sku = 0 then .ok (-1, w) else match priceOf D.ss sku with
  | none => .error 14
  | some _ => match pickI w.s.K sku with
   | none => .error 14
   | some j => .ok ((j : Int), { w with s := { w.s with K := w.s.K.set j { w.s.K.getD j KU0 with place := 7 } } }) := rfl
 rw [hd]
 clear hd
 by_cases h0' : sku = 0
 ·rw [if_pos h0']
  (refine eK c_saga_Saga_wanted (l_a rfl) fun K hK => ?_; (try simp (disch := first|omega|assumption|exact l_a rfl) only [go_sem, ↓wBk, simprocAttr, ir_saga_Saga_wanted]))
  (try simp (disch := first|omega|assumption|exact l_a rfl) only [go_sem, ↓wBk, simprocAttr])
  exact hK _ _ ⟨rfl, S⟩
 rw [if_neg h0']
 obtain ⟨sd, M, Sc, _⟩ := S.wkCell
 have F := Sc.all
 simp only [aC, aN, yC, and_true] at F
 (refine eK c_saga_Saga_wanted (l_a rfl) fun K hK => ?_; (try simp (disch := first|omega|assumption|exact l_a rfl) only [go_sem, ↓wBk, simprocAttr, ir_saga_Saga_wanted]))
 (try simp (disch := first|omega|assumption|exact l_a rfl) only [go_sem, ↓wBk, simprocAttr, F, sagE])
 rw [show [Value.slice D.A1 D.os.length D.c1, .slice D.A2 D.ss.length D.c2, .slice D.A3 D.ps.length D.c3] = D.enc from rfl]
 refine cI (OPrice_ok D sku (hc _ S.tl).ss (by omega)) ?_
 clear Sc F
 rintro _ h ⟨rfl, f1⟩
 have S := S.frame f1
 clear f1
 cases hp : priceOf D.ss sku with
 | none =>
  rw [hp] at hK
  (try simp (disch := first|omega|assumption|exact l_a rfl) only [go_sem, ↓wBk, simprocAttr, l_w])
  exact hK _ _ ⟨by decide, rfl, S.tl⟩
 | some pr =>
  rw [hp] at hK
  obtain ⟨sd, M, Sc, _⟩ := S.wkCell
  have F := Sc.all
  simp only [aC, aN, yC, and_true] at F
  (try simp (disch := first|omega|assumption|exact l_a rfl) only [go_sem, ↓wBk, simprocAttr, l_x, F, sagE])
  clear Sc F
  obtain ⟨M, Sk, back⟩ := S.wkStock
  refine cI (PickK_ok sku Sk (by omega)) ?_
  clear S Sk
  rintro _ h (⟨hn, rfl, Sk⟩ | ⟨j, hj, rfl, Sk⟩)
  ·have S := back _ _ Sk
   simp only [hn] at hK
   (try simp (disch := first|omega|assumption|exact l_a rfl) only [go_sem, ↓wBk, simprocAttr])
   exact hK _ _ ⟨by decide, rfl, S.tl⟩
  ·have S := back _ _ Sk
   simp only [hj] at hK
   (try simp (disch := first|omega|assumption|exact l_a rfl) only [go_sem, ↓wBk, simprocAttr])
   exact hK _ _ ⟨rfl, S⟩
theorem holder_ok (un : Int) (S : St h0 h (wkA L D u w :: l)) (W : w.wf U m) : CallsH Tryz.prog 95 [.pointer (some ⟨L.p, 0, none⟩), .int .i64 un] h fun v h' => v = .int .i64 (holderS w.s un) ∧ St h0 h' (wkA L D u w :: l) := by
 have hrl := W.rl
 obtain ⟨pd, hpd⟩ : ∃ pd : Ret → Bool, pd = fun r => !decide (6 ≤ r.state ∧ r.state ≤ 9) && r.us.contains un := ⟨_, rfl⟩
 have hh : holderS w.s un = ((w.s.R.find? pd).map Ret.num).getD 0 := by rw [hpd]; rfl
 rw [hh]
 obtain ⟨sd, vs, hv, S⟩ := St.wk.1 S
 have hvl : vs.length ≤ 100 := by rw [← l_z (f := RetV.r), hv]; omega
 have hlv : vs.length = w.s.R.length := by rw [← hv, l_z]
 ((try clear F); have F := S.all; (try simp only [aC, aN, yC, and_true] at F))
 (refine eK c_saga_Saga_holder (l_a rfl) fun K hK => ?_; (try simp (disch := first|omega|assumption|exact l_a rfl) only [go_sem, ↓wBk, simprocAttr, ir_saga_Saga_holder]))
 (try simp (disch := first|omega|assumption|exact l_a rfl) only [go_sem, ↓wBk, simprocAttr, F, sagE])
 refine lI (fun ρ h' => ρ 1 = .int .i64 un ∧ ρ 5 = .int .i64 0 ∧ ρ 13 = .slice L.A w.s.R.length L.c ∧ ρ 14 = .int .i64 w.s.R.length ∧ ∃ i : Nat, ρ 15 = .int .i64 i ∧ i ≤ vs.length ∧ (∀ r ∈ w.s.R.take i, pd r = false) ∧
  St h0 h' (cellA L.p (sagE D u L.k L.t L.o (.slice L.A w.s.R.length L.c) sd w.s) 64 :: stockA L.k w.s.K :: timA L.t w.s.T :: obxA L.o w.s.key w.s.O ::
  ownA RetV.enc 14 66 (.slice L.A w.s.R.length L.c) vs :: ownA Msg.enc 6 110 sd w.sd :: (vs.map retRow ++ l))) (fun ρ _ => vs.length - (iv (ρ 15)).toNat) ?_ ?_
 ·(try simp (disch := first|omega|assumption|exact l_a rfl) only [go_sem, ↓wBk, simprocAttr])
  exact ⟨0, rfl, by omega, by simp, S⟩
 clear S F
 rintro ρ h J hJ ⟨e1, e5, e13, e14, i, e15, hi, hno, S⟩
 (try simp (disch := first|omega|assumption|exact l_a rfl) only [go_sem, ↓wBk, simprocAttr, e14, e15])
 refine cD (fun hlt => ?_) (fun hlt => ?_)
 ·have hil : i < vs.length := by omega
  have hiR : i < w.s.R.length := by omega
  have hRi : w.s.R[i] = vs[i].r := by simp only [← hv, l_ae]
  have hWl := W.len _ (l_v hiR)
  obtain ⟨b1, o1, hA1, q1⟩ := (S.p4.arr RetV.enc_len).at hil
  have harr : ∀ {h' : Heap} {M : List HP}, St h0 h' (M ++ (vs.map retRow ++ l)) → Arr zEnc 1 h' vs[i].A vs[i].r.us := fun {h' M} S => (retRow_in S (x := vs[i]) (List.mem_append_right _ (List.mem_append_left _ (l_ai (l_v hil))))).1
  have hsn : pd vs[i].r = false → ∀ r ∈ w.s.R.take (i + 1), pd r = false := fun hx r hr => by
   rw [l_t hiR] at hr
   rcases List.mem_append.1 hr with hr | hr
   ·exact hno r hr
   ·rw [l_aa, hRi] at hr; rw [hr]; exact hx
  have hfind : pd vs[i].r = true → w.s.R.find? pd = some vs[i].r := fun hx => by
   have := findG_at hiR hno (by rw [hRi]; exact hx)
   rw [this, hRi]
  rw [hRi] at hWl
  generalize vs[i] = x at *
  (try simp (disch := first|omega|assumption|exact l_a rfl) only [go_sem, ↓wBk, simprocAttr, e13, e15, hA1, q1])
  (refine tA S ?_; clear S; intro q h S; (try simp only [sC, sN, l_h, l_i, Nat.zero_add, Nat.reduceAdd, l_j, l_k] at S); ((try clear F); have F := S.all; (try simp only [aC, aN, yC, and_true] at F)))
  (try simp (disch := first|omega|assumption|exact l_a rfl) only [go_sem, ↓wBk, simprocAttr, F, RetV.enc])
  refine tS S rfl rfl (l_a rfl) ?_
  clear S F q1
  intro h S
  (try simp only [sC, sN, l_h, l_i, Nat.zero_add, Nat.reduceAdd, l_j, l_k] at S)
  have S : St h0 h (cellA q x.enc 66 :: _) := S
  ((try clear F); have F := S.all; (try simp only [aC, aN, yC, and_true] at F))
  (try simp (disch := first|omega|assumption|exact l_a rfl) only [go_sem, ↓wBk, simprocAttr, F, RetV.enc])
  refine cI (RDone_ok x _) ?_
  rintro _ h ⟨rfl, f1⟩
  have S := S.frame f1
  clear f1 F
  by_cases kd : doneR x.r
  ·rw [dT kd]
   (try simp (disch := first|omega|assumption|exact l_a rfl) only [go_sem, ↓wBk, simprocAttr, e15])
   refine hJ _ _ ?_ ?_
   ·(try simp (disch := first|omega|assumption|exact l_a rfl) only [go_sem, ↓wBk, simprocAttr, e1, e5, e13, e14, hA1])
    refine ⟨i + 1, rfl, by omega, hsn (by rw [hpd]; obtain ⟨a, b⟩ := kd; simp [a, b]), ?_⟩
    have S := S.tl
    rw [hA1] at S
    exact S
   ·(try simp (disch := first|omega|assumption|exact l_a rfl) only [go_sem, ↓wBk, simprocAttr, e15])
    omega
  rw [dF kd]
  have hnd : decide (6 ≤ x.r.state ∧ x.r.state ≤ 9) = false := by simp only [decide_eq_false_iff_not]; exact kd
  ((try clear F); have F := S.all; (try simp only [aC, aN, yC, and_true] at F))
  (try simp (disch := first|omega|assumption|exact l_a rfl) only [go_sem, ↓wBk, simprocAttr, F, RetV.enc])
  refine lI (fun ρ' h' => ρ' 1 = .int .i64 un ∧ ρ' 5 = .int .i64 0 ∧ ρ' 13 = .slice L.A w.s.R.length L.c ∧ ρ' 14 = .int .i64 w.s.R.length ∧ ρ' 15 = .int .i64 i ∧ ρ' 7 = .pointer (some ⟨q, 0, none⟩) ∧ ρ' 22 = .slice x.A x.r.us.length x.c ∧ ρ' 23 = .int .i64 x.r.us.length ∧ ∃ j : Nat, ρ' 24 = .int .i64 j ∧ j ≤ x.r.us.length ∧ (∀ j', j' < j → x.r.us.getD j' 0 ≠ un) ∧
   St h0 h' (cellA q x.enc 66 :: cellA L.p (sagE D u L.k L.t L.o (.slice L.A w.s.R.length L.c) sd w.s) 64 :: stockA L.k w.s.K :: timA L.t w.s.T :: obxA L.o w.s.key w.s.O ::
   ownA RetV.enc 14 66 (.slice L.A w.s.R.length L.c) vs :: ownA Msg.enc 6 110 sd w.sd :: (vs.map retRow ++ l))) (fun ρ' _ => x.r.us.length - (iv (ρ' 24)).toNat) ?_ ?_
  ·(try simp (disch := first|omega|assumption|exact l_a rfl) only [go_sem, ↓wBk, simprocAttr, e1, e5, e13, e14, e15])
   exact ⟨0, rfl, by omega, fun j' h => absurd h (by omega), S⟩
  clear S F e1 e5 e13 e14
  have p15 := e15
  clear e15
  rintro ρ' h J' hJ' ⟨e1, e5, e13, e14, e15, e7, e22, e23, j, e24, hj, hnj, S⟩
  (try simp (disch := first|omega|assumption|exact l_a rfl) only [go_sem, ↓wBk, simprocAttr, e23, e24])
  refine cD (fun hlt2 => ?_) (fun hlt2 => ?_)
  ·have hjl : j < x.r.us.length := by omega
   obtain ⟨b2, o2, hA2, q2⟩ := (harr (M := [_, _, _, _, _, _, _]) S).at hjl
   have q2 := rP0 q2 (by omega)
   simp only [zEnc, l_o, Nat.mul_one] at q2
   rw [← getD_at] at q2
   ((try clear F); have F := S.all; (try simp only [aC, aN, yC, and_true] at F))
   by_cases hu : x.r.us.getD j 0 = un
   ·have hx : pd x.r = true := by
     rw [hpd]
     simp only [hnd, Bool.not_false, Bool.true_and]
     rw [List.contains_iff_mem, ← hu, getD_at hjl]
     exact l_v hjl
    (try simp (disch := first|omega|assumption|exact l_a rfl) only [go_sem, ↓wBk, simprocAttr, e1, e7, e22, e24, F, RetV.enc, hA2, q2, Nat.mul_one])
    refine hK _ _ ⟨?_, St.wk.2 ⟨sd, vs, hv, S.tl⟩⟩
    rw [hfind hx]
    rfl
   ·(try simp (disch := first|omega|assumption|exact l_a rfl) only [go_sem, ↓wBk, simprocAttr, e1, e7, e22, e24, F, RetV.enc, hA2, q2, Nat.mul_one])
    refine hJ' _ _ ?_ ?_
    ·(try simp (disch := first|omega|assumption|exact l_a rfl) only [go_sem, ↓wBk, simprocAttr, e1, e5, e13, e14, e15, e7, e22, e23, hA2])
     refine ⟨j + 1, rfl, by omega, fun j' hj' => ?_, ?_⟩
     ·by_cases e : j' = j
      ·rw [e]; exact hu
      ·exact hnj j' (by omega)
     ·exact S
    ·(try simp (disch := first|omega|assumption|exact l_a rfl) only [go_sem, ↓wBk, simprocAttr, e24])
     omega
  obtain rfl : j = x.r.us.length := by omega
  have hx : pd x.r = false := by
   rw [hpd]
   simp only [hnd, Bool.not_false, Bool.true_and]
   rw [← Bool.not_eq_true, List.contains_iff_mem]
   intro hm
   obtain ⟨j', hj', e⟩ := l_af hm
   exact hnj j' hj' (by rw [getD_at hj']; exact e)
  (try simp (disch := first|omega|assumption|exact l_a rfl) only [go_sem, ↓wBk, simprocAttr, e15])
  refine hJ _ _ ?_ ?_
  ·(try simp (disch := first|omega|assumption|exact l_a rfl) only [go_sem, ↓wBk, simprocAttr, e1, e5, e13, e14])
   exact ⟨i + 1, rfl, by omega, hsn hx, S.tl⟩
  ·(try simp (disch := first|omega|assumption|exact l_a rfl) only [go_sem, ↓wBk, simprocAttr, e15, p15])
   omega
 obtain rfl : i = vs.length := by omega
 have hnone : w.s.R.find? pd = none := findG_no (by rw [hlv, l_aj] at hno; exact hno)
 (try simp (disch := first|omega|assumption|exact l_a rfl) only [go_sem, ↓wBk, simprocAttr, e5])
 refine hK _ _ ⟨?_, St.wk.2 ⟨sd, vs, hv, S⟩⟩
 rw [hnone]
 rfl
end
end
end Go.Proofs.YtijnkebgciaieaaGreat.MX
