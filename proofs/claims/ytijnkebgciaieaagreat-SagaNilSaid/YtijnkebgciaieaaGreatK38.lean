import Derived.Test.YtijnkebgciaieaaGreatK37
namespace Go.Proofs.YtijnkebgciaieaaGreat.MX
open Go Go.Proofs
set_option linter.unusedSimpArgs false
set_option linter.unusedVariables false
section
set_option maxHeartbeats 16000000
def resQ (h0 : Heap) (L : Loc) (D : Cfg) (u : Value) (l : List HP) (x : Except Int (Int × Wk)) (v : Value) (h' : Heap) : Prop := match x with
 | .error e => e ≠ 0 ∧ v = .tuple #[.int .i64 0, .int .i64 e] ∧ St h0 h' l
 | .ok y => v = .tuple #[.int .i64 y.1, .int .i64 0] ∧ ∃ A c, St h0 h' (wkA { L with A := A, c := c } D u y.2 :: l)
def reqR (ps : List Pol) (U : List Unt) (now num j : Int) (c : Cmd) (i : Nat) : Ret :=
 ⟨num, c.ord, c.rea, c.want, j, c.cred || (c.us.take i).any fun u => (polOf ps (untAt U u).cat).cre, 1, now, c.us.take i, (c.us.take i).map fun _ => -1, 0, 0, 0, 0⟩
theorem reqR_succ {ps : List Pol} {U : List Unt} {now num j : Int} {c : Cmd} {i : Nat} (hi : i < c.us.length) :
  reqR ps U now num j c (i + 1) = { reqR ps U now num j c i with us := (reqR ps U now num j c i).us ++ [c.us[i]], gs := (reqR ps U now num j c i).gs ++ [-1], cred := (reqR ps U now num j c i).cred || (polOf ps (untAt U c.us[i]).cat).cre } := by
 simp only [reqR, l_t hi, List.any_append, l_al, List.any_cons, List.any_nil, Bool.or_false, Bool.or_assoc, List.map_cons, List.map_nil]
theorem say_inv {U : List Unt} {m : Nat} {w : Wk} {k n v : Int} (h : (sayP w k n v).wf U m) (hk : 1 ≤ w.s.key) : w.wf U m :=
 ⟨h.kl, h.rl, h.rr, h.tg, h.tn, by have := h.ol; simp only [sayP, l_m, l_f, l_g] at this; omega, fun x hx => h.ot x (List.mem_append_left _ hx), by have := h.key; simp only [sayP] at this; omega, by have := h.sl; simp only [sayP, l_m, l_f, l_g] at this; omega, h.now⟩
theorem perm_req (c r k t o s q y g : HP) (rows l : List HP) : (c :: r :: k :: t :: o :: s :: (rows ++ (q :: y :: g :: l))).Perm (c :: k :: t :: o :: r :: s :: ((rows ++ [y]) ++ (q :: g :: l))) := by
 refine List.Perm.cons _ ((perm_pick [k, t, o] r (s :: (rows ++ (q :: y :: g :: l)))).symm.trans ?_)
 refine List.Perm.append_left [k, t, o, r, s] ?_
 show (rows ++ (q :: y :: g :: l)).Perm ((rows ++ [y]) ++ (q :: g :: l))
 rw [l_q]
 exact List.Perm.append_left rows (List.Perm.swap _ _ _)
section
variable {h0 h : Heap} {l : List HP} {L : Loc} {D : Cfg} {w : Wk} {U : List Unt} {m b i : Nat} {Au : Option Addr} {cu : Nat}
theorem request_ok (x : CmdV) (hc : ∀ h', St h0 h' l → D.rd h') (hu : ∀ h', St h0 h' l → Arr Unt.enc 4 h' Au U) (hx : ∀ h', St h0 h' l → Arr zEnc 1 h' x.A x.c.us) (hxl : 1 ≤ x.c.us.length ∧ x.c.us.length ≤ 200) (hD : Stc D U)
  (S : St h0 h (wkA L D (.slice Au U.length cu) w :: l)) (W : w.wf U m) (hm : m < 390000) :
  CallsH Tryz.prog 38 [.pointer (some ⟨L.p, 0, none⟩), .agg x.enc.toArray] h fun v h' => resQ h0 L D (.slice Au U.length cu) l (requestP D.ps D.os D.ss U w x.c) v h' := by
 have hul := hD.ul
 have hol := hD.cfg.2.1
 have hrl := W.rl
 obtain ⟨rq, hrq⟩ : ∃ rq, rq = requestP D.ps D.os D.ss U w x.c := ⟨_, rfl⟩
 have hd := hrq
 unfold requestP at hd
 have hwf : ∀ y, rq = .ok y → y.2.wf U (m + 1) := fun y hy => request_wf hD.ul hxl (by rw [← hrq]; exact hy) W
 rw [← hrq]
 clear hrq
 (refine eK c_saga_Saga_request (l_a rfl) fun K hK => ?_; (try simp (disch := first|omega|assumption|exact l_a rfl) only [go_sem, ↓wBk, simprocAttr, ir_saga_Saga_request]))
 (refine tA S ?_; clear S; intro g h S; (try simp only [sC, sN, l_h, l_i, Nat.zero_add, Nat.reduceAdd, l_j, l_k] at S); ((try clear F); have F := S.all; (try simp only [aC, aN, yC, and_true] at F)))
 have S : St h0 h (wkA L D (.slice Au U.length cu) w :: cellA g x.enc 31 :: l) := S.p1
 obtain ⟨sd, M, Sc, _⟩ := S.wkCell
 have F2 := Sc.all
 simp only [aC, aN, yC, and_true] at F2
 ((try clear F); have F := S.all; (try simp only [aC, aN, yC, and_true] at F))
 by_cases k1 : 100 ≤ w.s.R.length
 ·rw [if_pos k1] at hd
  (try simp (disch := first|omega|assumption|exact l_a rfl) only [go_sem, ↓wBk, simprocAttr, F2, sagE, show (100 : Int) ≤ w.s.R.length by omega])
  rw [hd] at hK
  exact hK _ _ ⟨by decide, rfl, S.tl.tl⟩
 rw [if_neg k1] at hd
 by_cases k2 : x.c.ord < 0
 ·rw [if_pos (.inl k2)] at hd
  (try simp (disch := first|omega|assumption|exact l_a rfl) only [go_sem, ↓wBk, simprocAttr, F2, sagE, show ¬ (100 : Int) ≤ w.s.R.length by omega])
  refine dE ?_
  (try simp (disch := first|omega|assumption|exact l_a rfl) only [go_sem, ↓wBk, simprocAttr, F, CmdV.enc, k2])
  rw [hd] at hK
  exact hK _ _ ⟨by decide, rfl, S.tl.tl⟩
 by_cases k3 : (D.os.length : Int) ≤ x.c.ord
 ·rw [if_pos (.inr k3)] at hd
  (try simp (disch := first|omega|assumption|exact l_a rfl) only [go_sem, ↓wBk, simprocAttr, F2, sagE, show ¬ (100 : Int) ≤ w.s.R.length by omega])
  refine dE ?_
  (try simp (disch := first|omega|assumption|exact l_a rfl) only [go_sem, ↓wBk, simprocAttr, F, F2, sagE, CmdV.enc, k2, k3])
  rw [hd] at hK
  exact hK _ _ ⟨by decide, rfl, S.tl.tl⟩
 rw [if_neg (fun h => h.elim k2 k3)] at hd
 (try simp (disch := first|omega|assumption|exact l_a rfl) only [go_sem, ↓wBk, simprocAttr, F2, sagE, show ¬ (100 : Int) ≤ w.s.R.length by omega])
 refine dE ?_
 (try simp (disch := first|omega|assumption|exact l_a rfl) only [go_sem, ↓wBk, simprocAttr, F, F2, sagE, CmdV.enc, k2, k3])
 clear F F2 Sc
 refine cI (sasked_ok x (fun h' S => hc _ S.tl) (fun h' S => hu _ S.tl) (fun h' S => hx _ S.tl) (by omega) hD (by omega) S W) ?_
 clear S
 rintro _ h ⟨rfl, S⟩
 by_cases k4 : askedP D.ps D.os U w.s x.c = 0
 case neg =>
  rw [if_pos k4] at hd
  (try simp (disch := first|omega|assumption|exact l_a rfl) only [go_sem, ↓wBk, simprocAttr, k4])
  rw [hd] at hK
  exact hK _ _ ⟨k4, rfl, S.tl.tl⟩
 rw [if_neg (fun h => h k4)] at hd
 have hask : ∀ i, i < x.c.us.length → askUnit U x.c i := by
  have h2 := k4
  unfold askedP at h2
  split at h2
  ·simp at h2
  ·rename_i hd
   exact of_dcd_true (by cases hd' : dcd (∀ i, i < x.c.us.length → askUnit U x.c i) with | false => exact absurd hd' hd | true => rfl)
 ((try clear F); have F := S.all; (try simp only [aC, aN, yC, and_true] at F))
 (try simp (disch := first|omega|assumption|exact l_a rfl) only [go_sem, ↓wBk, simprocAttr, k4, F, CmdV.enc])
 clear F
 refine cI (wanted_ok x.c.want (fun h' S => hc _ S.tl) hD S W) ?_
 clear S
 have hww := fun y => wanted_wf (ss := D.ss) (sku := x.c.want) (x := y) (w := w) (m := m) (U := U)
 cases hwp : wantedP D.ss w x.c.want with
 | error e =>
  rw [hwp] at hd
  rintro _ h ⟨he, rfl, S⟩
  (try simp (disch := first|omega|assumption|exact l_a rfl) only [go_sem, ↓wBk, simprocAttr, he])
  rw [hd] at hK
  exact hK _ _ ⟨he, rfl, S.tl⟩
 | ok y =>
 obtain ⟨j, w1⟩ := y
 rw [hwp] at hd
 obtain ⟨W1, hR1, hn1⟩ := hww _ hwp W
 clear hww hwp
 rintro _ h ⟨rfl, S⟩
 simp only at S W1 hR1 hn1
 simp only [Except.map] at hd
 have hcell : ∀ h', St h0 h' (wkA L D (.slice Au U.length cu) w1 :: cellA g x.enc 31 :: l) → ∃ sd, blk h' L.p = some (sagE D (.slice Au U.length cu) L.k L.t L.o (.slice L.A w1.s.R.length L.c) sd w1.s, 64, (0, 0)) := fun h' S => by
  obtain ⟨sd, M, Sc, _⟩ := S.wkCell
  exact ⟨sd, Sc.blk⟩
 obtain ⟨LO, hLO⟩ : ∃ LO, LO = (wkA L D (.slice Au U.length cu) w1 :: cellA g x.enc 31 :: l) := ⟨_, rfl⟩
 have r13 : ∀ K t, readT (fun h' => St h0 h' LO) (fun h' => rd1 h' (.pointer (some ⟨L.p, 13, none⟩))) K t = K (.int .i64 w.s.now) := fun K t => rI (fun h' S => by obtain ⟨sd, hb⟩ := hcell _ (hLO ▸ S); rw [rd1_blk hb, ← hn1]; rfl) h (hLO ▸ S)
 have r10 : ∀ K t, readT (fun h' => St h0 h' LO) (fun h' => rd1 h' (.pointer (some ⟨L.p, 10, none⟩))) K t = K (.slice L.A w.s.R.length L.c) := fun K t => rI (fun h' S => by obtain ⟨sd, hb⟩ := hcell _ (hLO ▸ S); rw [rd1_blk hb, ← hR1]; rfl) h (hLO ▸ S)
 have rg : ∀ (off : Nat) (v : Value), x.enc[off]? = some v → ∀ K t, readT (fun h' => St h0 h' LO) (fun h' => rd1 h' (.pointer (some ⟨g, off, none⟩))) K t = K v := fun off v hv K t => rI (fun h' S => by rw [hLO] at S; rw [rd1_blk S.tl.blk]; exact hv) h (hLO ▸ S)
 have r1 := rg 1 _ rfl
 have r3 := rg 3 _ rfl
 have r4 := rg 4 _ rfl
 have r5 := rg 5 _ rfl
 (try simp (disch := first|omega|assumption|exact l_a rfl) only [go_sem, ↓wBk, simprocAttr])
 refine cS (hLO ▸ S : St h0 h LO) (fun ρ' h' => ρ' 0 = .pointer (some ⟨L.p, 0, none⟩) ∧ ρ' 3 = .pointer (some ⟨g, 0, none⟩) ∧ ∃ q, ρ' 9 = .pointer (some ⟨q, 0, none⟩) ∧ ∃ y : RetV, y.r = reqR D.ps U w.s.now (w.s.R.length + 1) j x.c 0 ∧ St h0 h' (cellA q y.enc 66 :: retRow y :: LO)) ?_ ?_
 ·intro J hJ
  (try simp (disch := first|omega|assumption|exact l_a rfl) only [go_sem, ↓wBk, simprocAttr, r13, r10, r1, r3, r4, r5])
  (refine tA S ?_; clear S; intro q h S; (try simp only [sC, sN, l_h, l_i, Nat.zero_add, Nat.reduceAdd, l_j, l_k] at S); ((try clear F); have F := S.all; (try simp only [aC, aN, yC, and_true] at F)))
  refine ⟨by rw [hLO]; exact S.tl, ?_⟩
  (try simp (disch := first|omega|assumption|exact l_a rfl) only [go_sem, ↓wBk, simprocAttr])
  refine tS S rfl rfl (l_a rfl) ?_
  clear S F r13 r10 r1 r3 r4 r5 rg
  intro h S
  (try simp only [sC, sN, l_h, l_i, Nat.zero_add, Nat.reduceAdd, l_j, l_k] at S)
  refine hJ _ _ ?_
  (try simp (disch := first|omega|assumption|exact l_a rfl) only [go_sem, ↓wBk, simprocAttr])
  refine ⟨q, rfl, ⟨reqR D.ps U w.s.now (w.s.R.length + 1) j x.c 0, none, 0, none, 0⟩, rfl, ?_⟩
  rw [hLO]
  have e : (reqR D.ps U w.s.now (w.s.R.length + 1) j x.c 0).cred = x.c.cred := by simp [reqR]
  rw [RetV.enc]
  simp only [e]
  refine St.p1 (St.star.2 ?_)
  exact St.nilS (St.nilS S)
 clear S r13 r10 r1 r3 r4 r5 rg hcell
 rintro ρ h ⟨e0, e3, q, e9, y, hy, S⟩
 rw [hLO] at S
 clear hLO
 have F1 := st_rd1 (off := 2) S.p3
 simp only [CmdV.enc, l_p, l_o] at F1
 (try simp (disch := first|omega|assumption|exact l_a rfl) only [go_sem, ↓wBk, simprocAttr, e3, F1])
 clear F1
 have p0 := e0
 have p3 := e3
 have p9 := e9
 clear e0 e3 e9
 refine lI (fun ρ h' => ρ 0 = .pointer (some ⟨L.p, 0, none⟩) ∧ ρ 3 = .pointer (some ⟨g, 0, none⟩) ∧ ρ 9 = .pointer (some ⟨q, 0, none⟩) ∧ ρ 71 = .slice x.A x.c.us.length x.n ∧ ρ 72 = .int .i64 x.c.us.length ∧ ∃ i : Nat, ρ 73 = .int .i64 i ∧ i ≤ x.c.us.length ∧
  ∃ y : RetV, y.r = reqR D.ps U w.s.now (w.s.R.length + 1) j x.c i ∧ St h0 h' (cellA q y.enc 66 :: retRow y :: wkA L D (.slice Au U.length cu) w1 :: cellA g x.enc 31 :: l)) (fun ρ _ => x.c.us.length - (iv (ρ 73)).toNat) ?_ ?_
 ·(try simp (disch := first|omega|assumption|exact l_a rfl) only [go_sem, ↓wBk, simprocAttr, p0, p3, p9])
  exact ⟨0, rfl, by omega, y, hy, S⟩
 clear S p0 p3 p9 hy
 rintro ρ h J hJ ⟨e0, e3, e9, e71, e72, i, e73, hi, y, hy, S⟩
 (try simp (disch := first|omega|assumption|exact l_a rfl) only [go_sem, ↓wBk, simprocAttr, e72, e73])
 refine cD (fun hlt => ?_) (fun hlt => ?_)
 ·have hil : i < x.c.us.length := by omega
  obtain ⟨b1, o1, hA1, q1⟩ := (hx _ S.tl.tl.tl.tl).at hil
  have q1 := rP0 q1 (by omega)
  simp only [zEnc, l_o, Nat.mul_one] at q1
  have hsucc := reqR_succ (ps := D.ps) (U := U) (now := w.s.now) (num := w.s.R.length + 1) (j := j) hil
  have hun : ∃ n : Nat, x.c.us[i] = n ∧ n < U.length := by
   have := (hask i hil)
   obtain ⟨_, a, b, _⟩ := this
   rw [getD_at hil] at a b
   exact ⟨x.c.us[i].toNat, by omega, by omega⟩
  rw [← hy] at hsucc
  have hyl : y.r.us.length = i ∧ y.r.gs.length = i := by
   rw [hy]
   simp only [reqR, l_z, l_ad]
   omega
  obtain ⟨hy1, hy2⟩ := hyl
  generalize x.c.us[i] = u at *
  obtain ⟨n, rfl, hnU⟩ := hun
  have hI : ∀ K t, readT (fun h' => St h0 h' (cellA q y.enc 66 :: wkA L D (.slice Au U.length cu) w1 :: cellA g x.enc 31 :: l)) (fun h' => rd1 h' (.pointer (some ⟨q, 8, none⟩))) K t = K (.slice y.A y.r.us.length y.c) := fun K t => rI (fun h' S => by rw [rd1_blk S.blk]; rfl) h S.d1
  have hI2 : ∀ K t, readT (fun h' => St h0 h' (cellA q y.enc 66 :: wkA L D (.slice Au U.length cu) w1 :: cellA g x.enc 31 :: l)) (fun h' => rd1 h' (.pointer (some ⟨q, 9, none⟩))) K t = K (.slice y.B y.r.gs.length y.d) := fun K t => rI (fun h' S => by rw [rd1_blk S.blk]; rfl) h S.d1
  (try simp (disch := first|omega|assumption|exact l_a rfl) only [go_sem, ↓wBk, simprocAttr, e71, e73, hA1, q1, Nat.mul_one])
  refine cS S.d1 (fun ρ' h' => ρ' 0 = .pointer (some ⟨L.p, 0, none⟩) ∧ ρ' 3 = .pointer (some ⟨g, 0, none⟩) ∧ ρ' 9 = .pointer (some ⟨q, 0, none⟩) ∧ ρ' 71 = .slice x.A x.c.us.length x.n ∧ ρ' 72 = .int .i64 x.c.us.length ∧ ρ' 73 = .int .i64 i ∧ ρ' 11 = .int .i64 n ∧
   ∃ z : RetV, z.r = { y.r with us := y.r.us ++ [(n : Int)], gs := y.r.gs ++ [-1] } ∧ St h0 h' (cellA q z.enc 66 :: retRow z :: wkA L D (.slice Au U.length cu) w1 :: cellA g x.enc 31 :: l)) ?_ ?_
  ·intro J' hJ'
   have S := St.star.1 S.p1
   (try simp (disch := first|omega|assumption|exact l_a rfl) only [go_sem, ↓wBk, simprocAttr, e9, hI, hI2])
   refine ⟨?_, ?_⟩
   ·(refine tA S ?_; clear S; intro b3 h S; (try simp only [sC, sN, l_h, l_i, Nat.zero_add, Nat.reduceAdd, l_j, l_k] at S); ((try clear F); have F := S.all; (try simp only [aC, aN, yC, and_true] at F)))
    refine ⟨S.tl.tl.tl, ?_⟩
    (try simp (disch := first|omega|assumption|exact l_a rfl) only [go_sem, ↓wBk, simprocAttr, e9])
    refine ⟨?_, ?_⟩
    ·(try simp (disch := first|omega|assumption|exact l_a rfl) only [go_sem, ↓wBk, simprocAttr, e9])
     refine tA1 (bytes := 8) (x := (n : Int)) zEl (by omega) zEp rfl rfl S (by omega) (by omega) ?_
     clear S F
     intro va h S
     obtain ⟨A', c', rfl⟩ := S.sl
     refine ⟨S.tl.tl, ?_⟩
     (try simp (disch := first|omega|assumption|exact l_a rfl) only [go_sem, ↓wBk, simprocAttr, e9])
     (refine tA S ?_; clear S; intro b7 h S; (try simp only [sC, sN, l_h, l_i, Nat.zero_add, Nat.reduceAdd, l_j, l_k] at S); ((try clear F); have F := S.all; (try simp only [aC, aN, yC, and_true] at F)))
     refine ⟨S.tl.tl.tl, ?_⟩
     (try simp (disch := first|omega|assumption|exact l_a rfl) only [go_sem, ↓wBk, simprocAttr, e9])
     refine tA1 (bytes := 8) (x := (-1 : Int)) zEl (by omega) zEp rfl rfl S.p2.p1 (by omega) (by omega) ?_
     clear S
     intro vb h S
     obtain ⟨B', d', rfl⟩ := S.sl
     (try simp (disch := first|omega|assumption|exact l_a rfl) only [go_sem, ↓wBk, simprocAttr, e9])
     refine tS S.p2 rfl rfl (l_a rfl) ?_
     clear S
     intro h S
     rw [RetV.enc] at S
     (try simp only [sC, sN, l_h, l_i, Nat.zero_add, Nat.reduceAdd, l_j, l_k] at S)
     (try simp (disch := first|omega|assumption|exact l_a rfl) only [go_sem, ↓wBk, simprocAttr, e9])
     refine tS S rfl rfl (l_a rfl) ?_
     clear S
     intro h S
     (try simp only [sC, sN, l_h, l_i, Nat.zero_add, Nat.reduceAdd, l_j, l_k] at S)
     refine hJ' _ _ ?_
     (try simp (disch := first|omega|assumption|exact l_a rfl) only [go_sem, ↓wBk, simprocAttr, e0, e3, e9, e71, e72, e73])
     rw [l_m, l_m] at S
     refine ⟨⟨{ y.r with us := y.r.us ++ [(n : Int)], gs := y.r.gs ++ [-1] }, A', c', B', d'⟩, rfl, ?_⟩
     rw [RetV.enc]
     simp only [l_m]
     exact St.p1 (St.star.2 (by simp only [l_m]; exact S.p2.p2.p1))
    ·(refine tA S ?_; clear S; intro b7 h S; (try simp only [sC, sN, l_h, l_i, Nat.zero_add, Nat.reduceAdd, l_j, l_k] at S); ((try clear F); have F := S.all; (try simp only [aC, aN, yC, and_true] at F)))
     refine ⟨S.tl.tl.tl.tl, ?_⟩
     (try simp (disch := first|omega|assumption|exact l_a rfl) only [go_sem, ↓wBk, simprocAttr, e9])
     refine tA1 (bytes := 8) (x := (n : Int)) zEl (by omega) zEp rfl rfl S.p2.p2 (by omega) (by omega) ?_
     clear S F
     intro va h S
     obtain ⟨A', c', rfl⟩ := S.sl
     refine ⟨S.tl.tl.tl, ?_⟩
     (try simp (disch := first|omega|assumption|exact l_a rfl) only [go_sem, ↓wBk, simprocAttr, e9])
     refine tA1 (bytes := 8) (x := (-1 : Int)) zEl (by omega) zEp rfl rfl S.p2.p2 (by omega) (by omega) ?_
     clear S
     intro vb h S
     obtain ⟨B', d', rfl⟩ := S.sl
     (try simp (disch := first|omega|assumption|exact l_a rfl) only [go_sem, ↓wBk, simprocAttr, e9])
     refine tS S.p2 rfl rfl (l_a rfl) ?_
     clear S
     intro h S
     rw [RetV.enc] at S
     (try simp only [sC, sN, l_h, l_i, Nat.zero_add, Nat.reduceAdd, l_j, l_k] at S)
     (try simp (disch := first|omega|assumption|exact l_a rfl) only [go_sem, ↓wBk, simprocAttr, e9])
     refine tS S rfl rfl (l_a rfl) ?_
     clear S
     intro h S
     (try simp only [sC, sN, l_h, l_i, Nat.zero_add, Nat.reduceAdd, l_j, l_k] at S)
     refine hJ' _ _ ?_
     (try simp (disch := first|omega|assumption|exact l_a rfl) only [go_sem, ↓wBk, simprocAttr, e0, e3, e9, e71, e72, e73])
     rw [l_m, l_m] at S
     refine ⟨⟨{ y.r with us := y.r.us ++ [(n : Int)], gs := y.r.gs ++ [-1] }, A', c', B', d'⟩, rfl, ?_⟩
     rw [RetV.enc]
     simp only [l_m]
     exact St.p1 (St.star.2 (by simp only [l_m]; exact S.p2.p2.p1))
   ·(refine tA S ?_; clear S; intro b7 h S; (try simp only [sC, sN, l_h, l_i, Nat.zero_add, Nat.reduceAdd, l_j, l_k] at S); ((try clear F); have F := S.all; (try simp only [aC, aN, yC, and_true] at F)))
    refine ⟨S.tl.tl.tl, ?_⟩
    (try simp (disch := first|omega|assumption|exact l_a rfl) only [go_sem, ↓wBk, simprocAttr, e9])
    (refine tA S ?_; clear S; intro b3 h S; (try simp only [sC, sN, l_h, l_i, Nat.zero_add, Nat.reduceAdd, l_j, l_k] at S); ((try clear F); have F := S.all; (try simp only [aC, aN, yC, and_true] at F)))
    refine ⟨S.tl.tl.tl.tl, ?_⟩
    (try simp (disch := first|omega|assumption|exact l_a rfl) only [go_sem, ↓wBk, simprocAttr, e9])
    refine tA1 (bytes := 8) (x := (n : Int)) zEl (by omega) zEp rfl rfl S.p2.p1 (by omega) (by omega) ?_
    clear S F
    intro va h S
    obtain ⟨A', c', rfl⟩ := S.sl
    refine ⟨S.tl.tl.tl, ?_⟩
    (try simp (disch := first|omega|assumption|exact l_a rfl) only [go_sem, ↓wBk, simprocAttr, e9])
    refine tA1 (bytes := 8) (x := (-1 : Int)) zEl (by omega) zEp rfl rfl S.p2.p2 (by omega) (by omega) ?_
    clear S
    intro vb h S
    obtain ⟨B', d', rfl⟩ := S.sl
    (try simp (disch := first|omega|assumption|exact l_a rfl) only [go_sem, ↓wBk, simprocAttr, e9])
    refine tS S.p2 rfl rfl (l_a rfl) ?_
    clear S
    intro h S
    rw [RetV.enc] at S
    (try simp only [sC, sN, l_h, l_i, Nat.zero_add, Nat.reduceAdd, l_j, l_k] at S)
    (try simp (disch := first|omega|assumption|exact l_a rfl) only [go_sem, ↓wBk, simprocAttr, e9])
    refine tS S rfl rfl (l_a rfl) ?_
    clear S
    intro h S
    (try simp only [sC, sN, l_h, l_i, Nat.zero_add, Nat.reduceAdd, l_j, l_k] at S)
    refine hJ' _ _ ?_
    (try simp (disch := first|omega|assumption|exact l_a rfl) only [go_sem, ↓wBk, simprocAttr, e0, e3, e9, e71, e72, e73])
    rw [l_m, l_m] at S
    refine ⟨⟨{ y.r with us := y.r.us ++ [(n : Int)], gs := y.r.gs ++ [-1] }, A', c', B', d'⟩, rfl, ?_⟩
    rw [RetV.enc]
    simp only [l_m]
    exact St.p1 (St.star.2 (by simp only [l_m]; exact S.p2.p2.p1))
  have p73 := e73
  clear S hI hI2 e0 e3 e9 e71 e72 e73
  rintro ρ' h ⟨e0, e3, e9, e71, e72, e73, e11, z, hz, S⟩
  ((try clear F); have F := S.all; (try simp only [aC, aN, yC, and_true] at F))
  cases hcr : z.r.cred
  ·have p5 := st_rd1 (off := 5) S
   simp only [RetV.enc, l_o, l_p, hcr] at p5
   (try simp (disch := first|omega|assumption|exact l_a rfl) only [go_sem, ↓wBk, simprocAttr, e0, e9, e11, p5])
   have S := S.p2
   refine cI (policy_okS n hnU (fun h' S => hc h' S.tl.tl.tl) (fun h' S => hu h' S.tl.tl.tl) S) ?_
   clear S p5 F
   rintro _ h ⟨rfl, S⟩
   (try simp (disch := first|omega|assumption|exact l_a rfl) only [go_sem, ↓wBk, simprocAttr, Pol.enc, e9])
   refine tS S.p1 rfl rfl (l_a rfl) ?_
   clear S
   intro h S
   rw [RetV.enc] at S
   (try simp only [sC, sN, l_h, l_i, Nat.zero_add, Nat.reduceAdd, l_j, l_k] at S)
   (try simp (disch := first|omega|assumption|exact l_a rfl) only [go_sem, ↓wBk, simprocAttr, e73])
   refine hJ _ _ ?_ ?_
   ·(try simp (disch := first|omega|assumption|exact l_a rfl) only [go_sem, ↓wBk, simprocAttr, e0, e3, e9, e71, e72])
    refine ⟨i + 1, rfl, by omega, { z with r := { z.r with cred := (polOf D.ps (untAt U n).cat).cre } }, ?_, S.p2.p1⟩
    rw [hsucc, hz]
    have : y.r.cred = false := by rw [← hcr, hz]
    simp only [this, Bool.false_or]
   ·(try simp (disch := first|omega|assumption|exact l_a rfl) only [go_sem, ↓wBk, simprocAttr, e73, p73])
    omega
  ·have p5 := st_rd1 (off := 5) S
   simp only [RetV.enc, l_o, l_p, hcr] at p5
   (try simp (disch := first|omega|assumption|exact l_a rfl) only [go_sem, ↓wBk, simprocAttr, e9, p5])
   refine tS S rfl rfl (l_a rfl) ?_
   clear S F p5
   intro h S
   rw [RetV.enc] at S
   (try simp only [sC, sN, l_h, l_i, Nat.zero_add, Nat.reduceAdd, l_j, l_k] at S)
   (try simp (disch := first|omega|assumption|exact l_a rfl) only [go_sem, ↓wBk, simprocAttr, e73])
   refine hJ _ _ ?_ ?_
   ·(try simp (disch := first|omega|assumption|exact l_a rfl) only [go_sem, ↓wBk, simprocAttr, e0, e3, e9, e71, e72])
    refine ⟨i + 1, rfl, by omega, { z with r := { z.r with cred := true } }, ?_, S⟩
    rw [hsucc, hz]
    have : y.r.cred = true := by rw [← hcr, hz]
    simp only [this, Bool.true_or]
   ·(try simp (disch := first|omega|assumption|exact l_a rfl) only [go_sem, ↓wBk, simprocAttr, e73, p73])
    omega
 obtain rfl : i = x.c.us.length := by omega
 (try simp (disch := first|omega|assumption|exact l_a rfl) only [go_sem, ↓wBk, simprocAttr, e0, e9])
 clear hJ e71 e72 e73 hi hlt J
 have hyr : y.r = ⟨w.s.R.length + 1, x.c.ord, x.c.rea, x.c.want, j, x.c.cred || x.c.us.any fun u => (polOf D.ps (untAt U u).cat).cre, 1, w.s.now, x.c.us, x.c.us.map fun _ => -1, 0, 0, 0, 0⟩ := by
  rw [hy, reqR, l_aj]
 clear hy
 rw [← hyr] at hd
 have hynum : y.r.num = w.s.R.length + 1 := by rw [hyr]
 clear hyr
 obtain ⟨w3, hw3⟩ : ∃ w3, w3 = { w1 with s := { w1.s with R := w.s.R ++ [y.r], T := setT w1.s.T (w.s.R.length + 1) (w.s.now + 14) } } := ⟨_, rfl⟩
 rw [← hw3] at hd
 have W3 : w3.wf U (m + 1) := say_inv (hwf _ hd) (by rw [hw3]; exact W1.key.1)
 have htl := W1.tl
 have htg := W1.tg
 have hR1l : w1.s.R.length = w.s.R.length := by rw [hR1]
 have hnow := W.now
 obtain ⟨sd, vs, hv, S⟩ := St.wk.1 S.p2
 rw [hR1] at hv
 rw [hR1l] at S
 have hvl : vs.length = w.s.R.length := by rw [← hv, l_z]
 obtain ⟨LO, hLO⟩ : ∃ LO, LO = cellA L.p (sagE D (.slice Au U.length cu) L.k L.t L.o (.slice L.A w.s.R.length L.c) sd w1.s) 64 :: stockA L.k w1.s.K :: timA L.t w1.s.T :: obxA L.o w1.s.key w1.s.O ::
  ownA RetV.enc 14 66 (.slice L.A w.s.R.length L.c) vs :: ownA Msg.enc 6 110 sd w1.sd :: (vs.map retRow ++ (cellA q y.enc 66 :: retRow y :: cellA g x.enc 31 :: l)) := ⟨_, rfl⟩
 have hmq : ∀ h', St h0 h' LO → blk h' q = some (y.enc, 66, (0, 0)) := fun h' S => by
  rw [hLO] at S
  obtain ⟨M, S⟩ := st_mem S (X := cellA q y.enc 66) (by simp)
  exact S.blk
 have S1 : St h0 h LO := hLO ▸ S
 have r10 : ∀ K t, readT (fun h' => St h0 h' LO) (fun h' => rd1 h' (.pointer (some ⟨L.p, 10, none⟩))) K t = K (.slice L.A w.s.R.length L.c) := fun K t => rI (fun h' S => by rw [hLO] at S; rw [rd1_blk S.blk]; rfl) h S1
 have rN : ∀ K t, readT (fun h' => St h0 h' LO) (fun h' => bindV (rdN h' q 0 14) fun cs => some (.agg cs.toArray)) K t = K (.agg y.enc.toArray) := fun K t => rI (fun h' S => by rw [rdN_blk (hmq _ S) (by simp [RetV.enc])]; rfl) h S1
 refine cS S1 (fun ρ' h' => ρ' 0 = .pointer (some ⟨L.p, 0, none⟩) ∧ ρ' 9 = .pointer (some ⟨q, 0, none⟩) ∧ ∃ A c, St h0 h' (cellA q y.enc 66 :: wkA { L with A := A, c := c } D (.slice Au U.length cu) { w1 with s := { w1.s with R := w.s.R ++ [y.r] } } :: cellA g x.enc 31 :: l)) ?_ ?_
 ·intro J hJ
  (try simp (disch := first|omega|assumption|exact l_a rfl) only [go_sem, ↓wBk, simprocAttr, e0, e9, r10, rN, RetV.enc])
  (refine tA S ?_; clear S; intro b h S; (try simp only [sC, sN, l_h, l_i, Nat.zero_add, Nat.reduceAdd, l_j, l_k] at S); ((try clear F); have F := S.all; (try simp only [aC, aN, yC, and_true] at F)))
  refine ⟨by rw [hLO]; exact S.tl, ?_⟩
  (try simp (disch := first|omega|assumption|exact l_a rfl) only [go_sem, ↓wBk, simprocAttr])
  refine tA1 (bytes := 144) (x := y) RetV.enc_len (by omega) RetV.enc_plain rfl rfl S.p5.p1 (by omega) (by omega) ?_
  clear S F S1 r10 rN hmq
  intro va h S
  obtain ⟨A, c, rfl⟩ := S.sl
  (try simp (disch := first|omega|assumption|exact l_a rfl) only [go_sem, ↓wBk, simprocAttr, e0])
  refine tS S.p1 rfl rfl (l_a rfl) ?_
  clear S
  intro h S
  rw [sagE] at S
  (try simp only [sC, sN, l_h, l_i, Nat.zero_add, Nat.reduceAdd, l_j, l_k] at S)
  refine hJ _ _ ?_
  (try simp (disch := first|omega|assumption|exact l_a rfl) only [go_sem, ↓wBk, simprocAttr, e0, e9])
  refine ⟨A, c, St.p1 (St.wk.2 ⟨sd, vs ++ [y], by rw [l_al, hv]; rfl, ?_⟩)⟩
  have e : (vs ++ [y]).length = (w.s.R ++ [y.r]).length := by simp [hvl]
  have S := S.perm (perm_req _ _ _ _ _ _ _ _ _ (vs.map retRow) l)
  rw [e] at S
  rw [l_al]
  exact S
 clear S S1 r10 rN hmq hLO e0 e9
 rintro ρ' h ⟨e0, e9, A, c, S⟩
 obtain ⟨L', hL', w2, hw2, S⟩ : ∃ L' : Loc, (L' = { L with A := A, c := c }) ∧ ∃ w2 : Wk, w2 = { w1 with s := { w1.s with R := w.s.R ++ [y.r] } } ∧ St h0 h (cellA q y.enc 66 :: wkA L' D (.slice Au U.length cu) w2 :: cellA g x.enc 31 :: l) := ⟨_, rfl, _, rfl, S⟩
 have hp : L.p = L'.p := by rw [hL']
 have hT2 : w2.s.T = w1.s.T := by rw [hw2]
 have hn2 : w2.s.now = w.s.now := by rw [hw2]; exact hn1
 have hw32 : w3 = { w2 with s := { w2.s with T := setT w2.s.T (w.s.R.length + 1) (w.s.now + 14) } } := by rw [hw3, hw2]
 rw [hp] at e0
 obtain ⟨sd, M, Sc, _⟩ := S.p1.wkCell
 have F2 := Sc.all
 simp only [aC, aN, yC, and_true] at F2
 ((try clear F); have F := S.all; (try simp only [aC, aN, yC, and_true] at F))
 (try simp (disch := first|omega|assumption|exact l_a rfl) only [go_sem, ↓wBk, simprocAttr])
 refine dE ?_
 (try simp (disch := first|omega|assumption|exact l_a rfl) only [go_sem, ↓wBk, simprocAttr, e0, e9, F, F2, sagE, RetV.enc, hn2])
 clear F F2 Sc
 obtain ⟨M, St2, back⟩ := S.p1.wkTim
 refine cI (SetT_ok y.r.num (w.s.now + 14) St2 (by rw [hT2]; omega) (by rw [hT2]; exact htg)) ?_
 clear S St2
 intro v h St2
 have S := back _ _ St2
 clear back St2
 rw [hynum, ← hw32] at S
 have S : St h0 h (wkA L' D (.slice Au U.length cu) w3 :: cellA q y.enc 66 :: cellA g x.enc 31 :: l) := S
 have F := st_rd1 (off := 0) S.p1
 simp only [RetV.enc, l_o, hynum] at F
 (try simp (disch := first|omega|assumption|exact l_a rfl) only [go_sem, ↓wBk, simprocAttr, e0, e9, F])
 clear F
 refine cI (say_ok 1 _ 0 S W3 (by omega)) ?_
 clear S
 intro v h S
 have F := st_rd1 (off := 0) S.p1
 simp only [RetV.enc, l_o, hynum] at F
 (try simp (disch := first|omega|assumption|exact l_a rfl) only [go_sem, ↓wBk, simprocAttr, e9, F])
 rw [hd] at hK
 refine hK _ _ ⟨rfl, A, c, ?_⟩
 rw [← hL']
 exact S.d1.d1
end
end
end Go.Proofs.YtijnkebgciaieaaGreat.MX
