import Derived.Test.YtcgbhcgfdcfmaaaGreatK23
import Derived.Test.YtcgbhcgfdcfmaaaGreatK12
import Derived.Test.YtcgbhcgfdcfmaaaGreatK13
import Derived.Test.YtcgbhcgfdcfmaaaGreatIR
import Derived.Test.YtcgbhcgfdcfmaaaGreatK20
import Derived.Test.YtcgbhcgfdcfmaaaGreatK21
import Derived.Test.YtcgbhcgfdcfmaaaGreatK22
import Derived.Test.YtcgbhcgfdcfmaaaGreatK17
import Derived.Test.YtcgbhcgfdcfmaaaGreatK18
namespace Go.Proofs.YtcgbhcgfdcfmaaaGreat.MX
open Go Go.Proofs
set_option linter.unusedSimpArgs false
set_option linter.unusedVariables false
section
set_option maxHeartbeats 4000000
theorem find_no {p : Tm → Bool} {L : List Tm} (hp : ∀ x ∈ L, p x = false) : L.find? p = none := List.find?_eq_none.2 fun x hx => by simp [hp x hx]
theorem find_at {p : Tm → Bool} : ∀ {L : List Tm} {i : Nat} (hi : i < L.length), (∀ x ∈ L.take i, p x = false) → p L[i] = true → L.find? p = some L[i]
 | [], i, hi, _, _ => by simp at hi
 | x :: L, 0, hi, _, h => by simpa using by simp [List.find?_cons, show p x = true from h]
 | x :: L, i + 1, hi, h1, h2 => by
  rw [List.find?_cons, show p x = false from h1 x (by simp)]
  exact find_at (by simpa using hi) (fun y hy => h1 y (by simp [hy])) h2
theorem without_no {n : Int} {L : List Tm} (hp : ∀ x ∈ L, isNum n x = false) : without L n = L := List.filter_eq_self.2 fun x hx => by simp [hp x hx]
theorem without_at {n : Int} {L : List Tm} {i : Nat} (hi : i < L.length) (h1 : ∀ x ∈ L.take i, isNum n x = false) (h2 : isNum n L[i] = true) (hg : L.Pairwise (fun a b => a.num ≠ b.num)) : without L n = L.take i ++ L.drop (i + 1) := by
 have hd : ∀ x ∈ L.drop (i + 1), isNum n x = false := by
  intro x hx
  obtain ⟨k, hk, rfl⟩ := List.mem_iff_getElem.1 hx
  rw [List.length_drop] at hk
  rw [List.getElem_drop]
  have := List.pairwise_iff_getElem.1 hg i (i + 1 + k) hi (by omega) (by omega)
  simp only [isNum, decide_eq_true_eq] at h2
  simp only [isNum, decide_eq_false_iff_not]
  rw [← h2]
  exact fun e => this e.symm
 unfold without
 conv => lhs; rw [← List.take_append_drop i L, List.drop_eq_getElem_cons hi, List.filter_append, List.filter_cons]
 rw [if_neg (by simp [h2])]
 congr 1
 ·exact List.filter_eq_self.2 fun x hx => by simp [h1 x hx]
 ·exact List.filter_eq_self.2 fun x hx => by simp [hd x hx]
def insT (L : List Tm) (x : Tm) : List Tm := L.take (posT L x) ++ x :: L.drop (posT L x)
def setT (L : List Tm) (n d : Int) : List Tm := insT (without L n) ⟨d, n⟩
def dueT (L : List Tm) (d : Int) : List Tm := L.takeWhile fun x => decide (x.day ≤ d)
def lateT (L : List Tm) (d : Int) : List Tm := L.dropWhile fun x => decide (x.day ≤ d)
def slN : Value → Nat
 | .slice _ n _ => n
 | _ => 0
def iEnc (x : Int) : List Value := [.int .i64 x]
theorem iEnc_len (x : Int) : (iEnc x).length = 1 := rfl
theorem iEnc_plain (x : Int) : pC (iEnc x) = true := rfl
section
variable {h0 h : Heap} {l : List HP} {t : Nat} {L : List Tm}
theorem St.timO' {s v : Value} {L' : List Tm} (S : St h0 h (cellA t [s] 80 :: offA tmE 2 135 v L' :: l)) : ∃ A c, v = .slice A L'.length c := S.p1.offSl
theorem St.apart {b : Nat} {cs : List Value} {T T' sz : Nat} {α : Type} {enc : α → List Value} {v : Value} {xs : List α} (S : St h0 h (cellA b cs T :: offA enc sz T' v xs :: l)) : b ∉ blkOf v := by
 obtain ⟨_, C, hp, _, D, hq, hd, _⟩ := S
 obtain ⟨rfl, _⟩ := hp
 obtain ⟨rfl, _⟩ := hq
 exact fun hm => (hd b hm).2 (by simp)
theorem OwnO.keepPush {α : Type} {enc : α → List Value} {sz T : Nat} {v : Value} {xs : List α} {o : Obj} (ho : OwnO enc sz T h v xs) : OwnO enc sz T (h.push o) v xs := ho.keep fun b hb => blk_push_old (ho.lt b hb)
theorem StopT_ok (n : Int) (S : St h0 h (timA t L :: l)) (hL : L.length < 1000000) (hg : GoodT L) : CallsH Tryz.prog 84 [.pointer (some ⟨t, 0, none⟩), .int .i64 n] h fun v h' => v = .bool (L.find? (isNum n)).isSome ∧ St h0 h' (timA t (without L n) :: l) := by
 refine EN i84.eq_1 fun K hK => Wa ?_
 refine cI (at_ok n S hL) ?_
 clear S
 rintro _ h ⟨rfl, S⟩
 rcases idxOf_spec (isNum n) L 0 with ⟨h1, h2⟩ | ⟨i, h1, hi, h3, h4⟩
 ·simp only [Int.natCast_zero] at h1
  rw [h1]
  refine Wa ?_
  exact hK _ _ ⟨by rw [find_no h2]; rfl, by rw [without_no h2]; exact S⟩
 ·simp only [Nat.zero_add, Int.natCast_zero] at h1
  have hp := h4 _ (l_r hi)
  have hf := find_at hi h3 hp
  obtain ⟨s, S⟩ := St.tim.1 S
  obtain ⟨A, c, rfl⟩ := S.timO
  ((try clear F); have F := S.fx)
  rw [h1]
  refine Wb F ?_
  rw [show ((i : Int) + 1) = ((i + 1 : Nat) : Int) by omega]
  refine cI (deleteO_ok (T := 135) (sz := 2) (bytes := 16) i127.2 tmE_len (by omega) tmE_plain rfl tmz_plain S.p1.off (by omega) (by omega) (by omega)) ?_
  rintro v h' ⟨ho, hfr, hb⟩
  have S := (S.p1.offUp hfr ho (fun b hm => .inl (hb b hm))).p1
  obtain ⟨A', c', rfl⟩ := S.timO'
  ((try clear F); have F := S.fx)
  refine Wb F ?_
  (revert S; (try clear F); refine ST fun h S F => ?_)
  refine Wa ?_
  rw [← without_at hi h3 hp hg.2] at S
  exact hK _ _ ⟨by rw [hf]; rfl, St.tim.2 ⟨_, S⟩⟩
theorem SetT_ok (n d : Int) (S : St h0 h (timA t L :: l)) (hL : L.length < 900000) (hg : GoodT L) : CallsH Tryz.prog 79 [.pointer (some ⟨t, 0, none⟩), .int .i64 n, .int .i64 d] h fun v h' => St h0 h' (timA t (setT L n d) :: l) := by
 refine EN i79.eq_1 fun K hK => Wa ?_
 refine cI (StopT_ok n S (by omega) hg) ?_
 clear S
 rintro _ h ⟨rfl, S⟩
 refine Wa ?_
 (revert S; (try clear F); refine AL fun q h S F => ?_)
 refine Wb F ?_
 (revert S; (try clear F); refine ST fun h S F => ?_)
 refine Wb F ?_
 have hwl : (without L n).length ≤ L.length := List.length_filter_le _ _
 have hso : (without L n).Pairwise aheadT := hg.1.sublist List.filter_sublist
 generalize hW : without L n = W at S hwl hso
 obtain ⟨s, S⟩ := St.tim.1 S.p1
 obtain ⟨A, c, rfl⟩ := S.timO
 ((try clear F); have F := S.fx)
 have hs1 := hso
 have rt : ∀ K u, readT (fun h' => St h0 h' _) (fun h' => rd1 h' (.pointer (some ⟨t, 0, none⟩))) K u = bindT (some (.slice A W.length c)) K ⟨⟩ := fun K u => reads_of S (fun h' s => st_rd1 s)
 have rq : ∀ K u, readT (fun h' => St h0 h' _) (fun h' => bindV (rdN h' q 0 2) fun cs => some (.agg cs.toArray)) K u = bindT (some (.agg (tmE ⟨d, n⟩).toArray)) K ⟨⟩ := fun K u => reads_of S (fun h' s => by rw [st_rdN s.p2 (by simp)]; rfl)
 refine draw_st S ?_
 refine Wc rt rq ?_
 refine cI (Search_ok (x := ⟨d, n⟩) S (fun h' s => s.p1.offArr tmE_len) hs1 (by omega)) ?_
 rintro _ h1 ⟨⟨fnd, rfl⟩, S1⟩
 refine Wa ?_
 try refine ⟨S1, ?_⟩
 refine Wa ?_
 clear rt rq
 refine draw_fr (blkOf (.slice A W.length c)) ?_
 have r1 : rd1 h1 (.pointer (some ⟨t, 0, none⟩)) = some (.slice A W.length c) := st_rd1 S1
 have htm : t < h1.size := blk_lt S1.blk
 have htv : t ∉ blkOf (.slice A W.length c) := S1.apart
 have rq : ∀ K u, readT (fun h' => Fr h1 h' (blkOf (.slice A W.length c))) (fun h' => bindV (rdN h' q 0 2) fun cs => some (.agg cs.toArray)) K u = bindT (some (.agg [Value.int .i64 d, .int .i64 n].toArray)) K ⟨⟩ := fun K u => by
  rw [readT_N (blk_lt S1.p2.blk) (S1.p2.d1).apart, st_rdN S1.p2 (by simp)]; rfl
 refine We r1 rq @sC @sN ?_
 simp only [allocT, mkSl_eq]
 have S2 : St h0 (h1.push (.cells [Value.int .i64 d, .int .i64 n].toArray 135 (0, 0))) _ := S1.alloc
 have hf2 : Fr h1 (h1.push (.cells [Value.int .i64 d, .int .i64 n].toArray 135 (0, 0))) (blkOf (.slice A W.length c)) := (Fr.refl _ _).push _
 refine Wd hf2 @sC @sN ?_
 have hpl : posT W ⟨d, n⟩ ≤ W.length := List.IsPrefix.length_le (List.takeWhile_prefix _)
 refine cI (Insert_ok (x := ⟨d, n⟩) S1.p1.off.keepPush hpl (by omega) (blk_push_new rfl) (fun hm => by have := S1.p1.off.lt _ hm; omega)) ?_
 rintro v h3 ⟨ho, hf3, hb⟩
 have S3 := (S2.p2.offUp hf3 ho hb).p2
 obtain ⟨A', c', rfl⟩ := S3.timO'
 have hf4 := hf2.trans hf3
 refine Wb hf4 ?_
 refine tS S3 (by rfl) (by rfl) (l_a rfl) ?_
 intro h4 S4
 simp only [sC, sN, l_h] at S4
 refine Wa ?_
 refine hK _ _ ?_
 unfold setT insT
 rw [hW]
 exact (St.tim.2 ⟨_, S4⟩).d1.d1
theorem DueT_ok (d : Int) (S : St h0 h (timA t L :: l)) (hL : L.length < 1000000) : CallsH Tryz.prog 94 [.pointer (some ⟨t, 0, none⟩), .int .i64 d] h fun v h' => St h0 h' (ownA iEnc 1 3 v ((dueT L d).map Tm.num) :: timA t (lateT L d) :: l) := by
 have S0 : St h0 h (ownA iEnc 1 3 (.slice none 0 0) [] :: timA t L :: l) := S.nilS
 refine EN i94.eq_1 fun K hK => Wa ?_
 refine lI (fun ρ h' => ρ 0 = .pointer (some ⟨t, 0, none⟩) ∧ ρ 1 = .int .i64 d ∧ ∃ v D M, ρ 5 = v ∧ St h0 h' (ownA iEnc 1 3 v D :: timA t M :: l) ∧ M.length ≤ L.length ∧ D.length + M.length = L.length ∧ D ++ (dueT M d).map Tm.num = (dueT L d).map Tm.num ∧ lateT M d = lateT L d) (fun ρ _ => L.length - slN (ρ 5)) ?_ ?_
 ·refine Wa ?_
  exact ⟨_, [], L, rfl, S0, by omega, by simp, rfl, rfl⟩
 ·clear S S0
  rintro ρ h J hJ ⟨e0, e1, v, D, M, e5, S, hML, hDM, hD, hM⟩
  obtain ⟨Av, cv, rfl⟩ := S.sl
  obtain ⟨s, S⟩ := St.tim.1 S.p1
  obtain ⟨A, c, rfl⟩ := S.timO
  ((try clear F); have F := S.fx)
  cases M with
  | nil =>
   simp only [l_g] at S F
   refine Wd e0 e1 F ?_
   refine hK _ _ ?_
   simp only [dueT, lateT, List.takeWhile_nil, List.dropWhile_nil, List.map_nil, l_am] at hD hM
   refine Wb e5 ?_
   rw [dueT, ← hD, lateT, ← hM]
   exact (St.tim.2 ⟨_, S⟩).p1
  | cons x M =>
   obtain ⟨b, off, rfl, hr⟩ := S.p1.offArr tmE_len 0 (by simp)
   simp only [Nat.zero_mul, Nat.add_zero, List.getElem_cons_zero] at hr
   have hr0 : rd1 h (.pointer (some ⟨b, off, none⟩)) = some (.int .i64 x.day) := rP hr 0 (by omega)
   have hr1 : rd1 h (.pointer (some ⟨b, off + 1, none⟩)) = some (.int .i64 x.num) := rP hr 1 (by omega)
   generalize hn : (x :: M).length = n at S F hML hDM
   have hn1 : n = M.length + 1 := by rw [← hn]; simp
   by_cases hx : x.day ≤ d
   ·refine Wh e0 e1 e5 F hr0 hr1 hx ?_
    (revert S; (try clear F); refine AL fun g h S F => ?_)
    refine Wa ?_
    refine tA1 (bytes := 8) (x := x.num) iEnc_len (by omega) iEnc_plain rfl rfl S.p3.p1 (by omega) (by omega) ?_
    clear S
    intro v h S
    ((try clear F); have F := S.fx)
    obtain ⟨A', c', hcut, hoff, hblk⟩ := S.p2.off.pop tmE_len
    refine Wd e0 F hcut ?_
    have S := (S.p2.offUp (Fr.refl _ _) hoff (fun b hm => .inl (by rw [← hblk]; exact hm))).p2
    refine tS S (by rfl) (by rfl) (l_a rfl) ?_
    clear S
    intro h S
    simp only [sC, sN, l_h] at S
    refine Wa ?_
    have S := (St.tim.2 ⟨_, S⟩).p1
    obtain ⟨Av', cv', rfl⟩ := S.sl
    rw [dueT, List.takeWhile_cons, if_pos (by simpa using hx)] at hD
    rw [lateT, List.dropWhile_cons, if_pos (by simpa using hx)] at hM
    refine hJ _ _ ?_ ?_
    ·refine Wc e0 e1 ?_
     exact ⟨_, _, M, rfl, S, by omega, by simp only [l_m, l_f, l_g]; omega, by rw [← hD]; simp [dueT], hM⟩
    ·refine Wd e5 @slN.eq_1 @slN.eq_2 ?_
     simp only [l_m, l_f, l_g]
     omega
   ·refine Wh e0 e1 e5 F hr0 hr1 hx ?_
    refine hK _ _ ?_
    rw [dueT, List.takeWhile_cons, if_neg (by simpa using hx)] at hD
    rw [lateT, List.dropWhile_cons, if_neg (by simpa using hx)] at hM
    rw [← hD, ← hM, List.map_nil, l_am]
    subst hn
    exact (St.tim.2 ⟨_, S⟩).p1
end
end
section
set_option maxHeartbeats 4000000
theorem tim_new {h0 h : Heap} {l : List HP} {t : Nat} (S : St h0 h (cellA t [.slice none 0 0] 80 :: l)) : St h0 h (timA t [] :: l) := St.tim.2 ⟨_, S.nilO.p1⟩
theorem good_nil : GoodT [] := ⟨.nil, .nil⟩
end
section
set_option maxHeartbeats 8000000
structure Ret where
 num : Int
 ord : Int
 rea : Int
 want : Int
 res : Int
 cred : Bool
 state : Int
 day : Int
 us : List Int
 gs : List Int
 worth : Int
 paid : Int
 credd : Int
 given : Int
structure RetV where
 r : Ret
 A : Option Addr
 c : Nat
 B : Option Addr
 d : Nat
def RetV.enc (x : RetV) : List Value := [.int .i64 x.r.num, .int .i64 x.r.ord, .int .i64 x.r.rea, .int .i64 x.r.want, .int .i64 x.r.res, .bool x.r.cred, .int .i64 x.r.state, .int .i64 x.r.day, .slice x.A x.r.us.length x.c, .slice x.B x.r.gs.length x.d, .int .i64 x.r.worth, .int .i64 x.r.paid, .int .i64 x.r.credd, .int .i64 x.r.given]
theorem RetV.enc_len (x : RetV) : x.enc.length = 14 := rfl
theorem RetV.enc_plain (x : RetV) : pC x.enc = true := rfl
def btw (n a b : Int) : Prop := a ≤ n ∧ n ≤ b
def unitOk (us gs : List Int) (k : Nat) : Prop := btw (us.getD k 0) 0 199 ∧ (0 < k → us.getD (k - 1) 0 < us.getD k 0) ∧ btw (gs.getD k 0) (-1) 4
def okUnits (us gs : List Int) : Prop := btw us.length 1 200 ∧ gs.length = us.length ∧ ∀ k, k < us.length → unitOk us gs k
theorem unitOk_snoc {us gs : List Int} {i : Nat} (h : ∀ k, k < i → unitOk us gs k) (hi : unitOk us gs i) : ∀ k, k < i + 1 → unitOk us gs k := fun k hk => by
 by_cases e : k = i
 ·rw [e]; exact hi
 ·exact h k (by omega)
theorem getD_at {us : List Int} {i : Nat} (hi : i < us.length) : us.getD i 0 = us[i] := by simp [l_s, hi]
def okMon (n : Int) : Prop := btw n 0 1125899906842624
def Ret.right (r : Ret) : Prop := btw r.num 1 100 ∧ btw r.ord 0 19 ∧ btw r.rea 0 3 ∧ btw r.want 0 1000 ∧ btw r.res (-1) 199 ∧ btw r.state 1 9 ∧ btw r.day 0 100000 ∧ okUnits r.us r.gs ∧ okMon r.worth ∧ okMon r.paid ∧ okMon r.credd ∧ okMon r.given
theorem between_ok (n a b : Int) (h : Heap) : CallsH Tryz.prog 132 [.int .i64 n, .int .i64 a, .int .i64 b] h fun v h' => v = .bool (dcd (btw n a b)) ∧ h' = h := by
 by_cases h1 : a ≤ n
 ·by_cases h2 : n ≤ b
  ·refine EN i132.eq_1 fun K hK => ?_
   refine Wc h1 h2 ?_
   exact hK _ _ ⟨by rw [dT ⟨h1, h2⟩], rfl⟩
  ·refine EN i132.eq_1 fun K hK => ?_
   refine Wc h1 h2 ?_
   exact hK _ _ ⟨by rw [dF fun h => h2 h.2], rfl⟩
 ·refine EN i132.eq_1 fun K hK => ?_
  refine Wb h1 ?_
  exact hK _ _ ⟨by rw [dF fun h => h1 h.1], rfl⟩
end
section
set_option maxHeartbeats 8000000
structure Led where
 a : Int
 b : Int
 c : Int
 d : Int
 e : Int
structure Sag where
 K : List KU
 led : Led
 R : List Ret
 T : List Tm
 key : Int
 O : List Msg
 now : Int
def cfgA (D : Cfg) : HP := starsA (ownA Odr.enc 5 90 (.slice D.A1 D.os.length D.c1) D.os :: ownA Sup.enc 3 95 (.slice D.A2 D.ss.length D.c2) D.ss :: ownA Pol.enc 16 105 (.slice D.A3 D.ps.length D.c3) D.ps :: D.os.map oRow)
def retRow (x : RetV) : HP := starA (ownA zEnc 1 3 (.slice x.A x.r.us.length x.c) x.r.us) (ownA zEnc 1 3 (.slice x.B x.r.gs.length x.d) x.r.gs)
def rmasA (s : Value) (R : List Ret) : HP := exA fun vs : List RetV => starsA (pureA (vs.map RetV.r = R) :: ownA RetV.enc 14 59 s vs :: vs.map retRow)
def sagE (D : Cfg) (u : Value) (k t o : Nat) (rs sd : Value) (s : Sag) : List Value := [.slice D.A1 D.os.length D.c1, .slice D.A2 D.ss.length D.c2, .slice D.A3 D.ps.length D.c3, u, .pointer (some ⟨k, 0, none⟩), .int .i64 s.led.a, .int .i64 s.led.b, .int .i64 s.led.c, .int .i64 s.led.d, .int .i64 s.led.e, rs, .pointer (some ⟨t, 0, none⟩), .pointer (some ⟨o, 0, none⟩), .int .i64 s.now, sd]
def sagaA (p : Nat) (D : Cfg) (u : Value) (s : Sag) : HP := exA fun x : Nat × Nat × Nat × Value => starsA [cellA p (sagE D u x.1 x.2.1 x.2.2.1 x.2.2.2 (.slice none 0 0) s) 84, stockA x.1 s.K, timA x.2.1 s.T, obxA x.2.2.1 s.key s.O, rmasA x.2.2.2 s.R]
def stcA (D : Cfg) (u : Value) (U : List Unt) : HP := starA (cfgA D) (ownA Unt.enc 4 72 u U)
section
variable {h0 h : Heap} {l : List HP} {p : Nat} {D : Cfg} {u : Value} {s : Sag} {U : List Unt}
theorem cfgA_rd (S : St h0 h (cfgA D :: l)) : D.rd h := by
 have S := St.stars.1 S
 simp only [l_j] at S
 have R := rows_arr (L := [_, _, _]) S
 exact ⟨S.arr Odr.enc_len, fun o ho => (R o ho).1, S.p1.arr Sup.enc_len, S.p2.arr Pol.enc_len⟩
theorem stcA_rd (S : St h0 h (stcA D u U :: l)) : D.rd h ∧ ∃ A c, u = .slice A U.length c ∧ Arr Unt.enc 4 h A U := by
 have S := St.star.1 S
 refine ⟨cfgA_rd S, ?_⟩
 obtain ⟨A, c, rfl⟩ := S.p1.sl
 exact ⟨A, c, rfl, S.p1.arr Unt.enc_len⟩
theorem stcA_in (S : St h0 h l) (hm : stcA D u U ∈ l) : D.rd h ∧ ∃ A c, u = .slice A U.length c ∧ Arr Unt.enc 4 h A U := by
 obtain ⟨M, S⟩ := st_mem S hm
 exact stcA_rd S
theorem St.rmas {v : Value} {R : List Ret} : St h0 h (rmasA v R :: l) ↔ ∃ vs, vs.map RetV.r = R ∧ St h0 h (ownA RetV.enc 14 59 v vs :: (vs.map retRow ++ l)) := by
 rw [rmasA, St.ex]
 refine exists_congr fun vs => ?_
 rw [St.stars]
 exact St.pure
theorem St.saga : St h0 h (sagaA p D u s :: l) ↔ ∃ k t o rs, St h0 h (cellA p (sagE D u k t o rs (.slice none 0 0) s) 84 :: stockA k s.K :: timA t s.T :: obxA o s.key s.O :: rmasA rs s.R :: l) := by
 rw [sagaA, St.ex]
 constructor
 ·rintro ⟨⟨k, t, o, rs⟩, S⟩
  exact ⟨k, t, o, rs, St.stars.1 S⟩
 ·rintro ⟨k, t, o, rs, S⟩
  exact ⟨⟨k, t, o, rs⟩, St.stars.2 S⟩
theorem retRow_in {x : RetV} (S : St h0 h l) (hm : retRow x ∈ l) : Arr zEnc 1 h x.A x.r.us ∧ Arr zEnc 1 h x.B x.r.gs := by
 obtain ⟨M, S⟩ := st_mem S hm
 have S := St.star.1 S
 exact ⟨S.arr zEl, S.p1.arr zEl⟩
theorem okCfg.len {D : Cfg} (hok : okCfg D) : D.os.length ≤ 20 ∧ D.ss.length ≤ 20 ∧ D.ps.length ≤ 16 ∧ ∀ o ∈ D.os, o.ls.length ≤ 8 := by
 obtain ⟨k0, k1, k2, k3, k4, _⟩ := id hok
 exact ⟨k1, k2, k0.1, fun o ho => (k3 o ho).1.2.1.2⟩
theorem CfgClone_ok (C : Cfg) (r : ∀ h', St h0 h' l → C.rd h') (hok : okCfg C) (S : St h0 h l) :
  CallsH Tryz.prog 28 [.agg C.enc.toArray] h fun v h' => ∃ D : Cfg, v = .agg D.enc.toArray ∧ D.wf ∧ D.pu = C.pu ∧ St h0 h' (cfgA D :: l) := by
 obtain ⟨k1, k2, k3, k4⟩ := hok.len
 refine (OClone_ok C r (by omega) (by omega) (by omega) (fun o ho => by have := k4 o ho; omega) S).mono ?_
 rintro v h' ⟨D, rfl, hw, hp, S⟩
 exact ⟨D, rfl, hw, hp, St.stars.2 S⟩
theorem StockS_ok (S : St h0 h (sagaA p D u s :: l)) (hl : s.K.length < 1000000) :
  CallsH Tryz.prog 17 [.pointer (some ⟨p, 0, none⟩)] h fun v h' => ∃ k, v = .pointer (some ⟨k, 0, none⟩) ∧ St h0 h' (stockA k s.K :: sagaA p D u s :: l) := by
 refine EN i17.eq_1 fun K hK => Wa ?_
 obtain ⟨k, t, o, rs, S⟩ := St.saga.1 S
 ((try clear F); have F := S.fx)
 refine Wc F @sagE.eq_1 ?_
 refine cI (CloneK_ok S.p1 hl) ?_
 clear S F
 rintro _ h ⟨q, rfl, S⟩
 refine Wa ?_
 exact hK _ _ ⟨q, rfl, (St.saga.2 ⟨k, t, o, rs, (by (exact PM S) )⟩).p1⟩
end
end
section
set_option maxHeartbeats 8000000
def Ret.zero : Ret := ⟨0, 0, 0, 0, 0, false, 0, 0, [], [], 0, 0, 0, 0⟩
def zR : RetV := ⟨Ret.zero, none, 0, none, 0⟩
section
variable {h0 h : Heap} {l : List HP} {p : Nat} {D : Cfg} {u : Value} {s : Sag} {U : List Unt}
theorem CloneI_ok {A : Option Addr} {n c : Nat} {xs : List Int} (S : St h0 h l) (ha : Arr zEnc 1 h A xs) (hn : n = xs.length) (hl : xs.length < 1000000000) :
  CallsH Tryz.prog 62 [.slice A n c] h fun v h' => St h0 h' (ownA zEnc 1 3 v xs :: l) :=
 (clone_ok (T := 3) (sz := 1) (bytes := 8) i62.2 zEl (by omega) zEp rfl ha hn (arr_none ha) (by omega) (by omega)).mono fun v h' ⟨ho, hf, _⟩ => S.ownNew hf ho
theorem RClone_ok (x : RetV) (ha : ∀ h', St h0 h' l → Arr zEnc 1 h' x.A x.r.us) (hb : ∀ h', St h0 h' l → Arr zEnc 1 h' x.B x.r.gs) (l1 : x.r.us.length < 1000000) (l2 : x.r.gs.length < 1000000) (S : St h0 h l) :
  CallsH Tryz.prog 38 [.agg x.enc.toArray] h fun v h' => ∃ y : RetV, v = .agg y.enc.toArray ∧ y.r = x.r ∧ St h0 h' (retRow y :: l) := by
 refine EN i38.eq_1 fun K hK => Wa ?_
 (revert S; (try clear F); refine AL fun b h S F => ?_)
 refine Wa ?_
 (revert S; (try clear F); refine AL fun g h S F => ?_)
 have hg0 := st_rd1 (off := 8) S.p1
 have hg1 := st_rd1 (off := 9) S.p1
 simp only [RetV.enc, l_p, l_o] at hg0 hg1
 have hI : (fun h' => rd1 h' (.pointer (some ⟨b, 8, none⟩)) = some (.slice x.A x.r.us.length x.c) ∧ rd1 h' (.pointer (some ⟨b, 9, none⟩)) = some (.slice x.B x.r.gs.length x.d)) h := ⟨hg0, hg1⟩
 have rx : ∀ K t, readT (fun h' => rd1 h' (.pointer (some ⟨b, 8, none⟩)) = some (.slice x.A x.r.us.length x.c) ∧ rd1 h' (.pointer (some ⟨b, 9, none⟩)) = some (.slice x.B x.r.gs.length x.d)) (fun h' => rd1 h' (.pointer (some ⟨b, 8, none⟩))) K t = K (.slice x.A x.r.us.length x.c) := fun K t => rI (fun h' hh => hh.1) h hI
 have ry : ∀ K t, readT (fun h' => rd1 h' (.pointer (some ⟨b, 8, none⟩)) = some (.slice x.A x.r.us.length x.c) ∧ rd1 h' (.pointer (some ⟨b, 9, none⟩)) = some (.slice x.B x.r.gs.length x.d)) (fun h' => rd1 h' (.pointer (some ⟨b, 9, none⟩))) K t = K (.slice x.B x.r.gs.length x.d) := fun K t => rI (fun h' hh => hh.2) h hI
 refine Wa ?_
 refine dI (fun h' => rd1 h' (.pointer (some ⟨b, 8, none⟩)) = some (.slice x.A x.r.us.length x.c) ∧ rd1 h' (.pointer (some ⟨b, 9, none⟩)) = some (.slice x.B x.r.gs.length x.d)) hI ?_
 refine Wc rx ry ?_
 refine cI (CloneI_ok S (ha _ S.tl.tl) rfl (by omega)) ?_
 clear S F hg0 hg1 hI rx ry
 intro v h S
 obtain ⟨A, c, rfl⟩ := S.sl
 refine ⟨⟨st_rd1 (off := 8) S.p2, st_rd1 (off := 9) S.p2⟩, ?_⟩
 refine Wa ?_
 refine cI (CloneI_ok S (hb _ S.tl.tl.tl) rfl (by omega)) ?_
 clear S
 intro v h S
 obtain ⟨B, d, rfl⟩ := S.sl
 refine Wa ?_
 refine tS S.p3 rfl rfl (l_a rfl) ?_
 clear S
 intro h S
 rw [RetV.enc] at S
 replace S := S.nm
 refine Wa ?_
 refine tS S rfl rfl (l_a rfl) ?_
 clear S
 intro h S
 replace S := S.nm
 ((try clear F); have F := S.fx)
 refine Wb F ?_
 refine tS S.p3 rfl rfl (l_a rfl) ?_
 clear S F
 intro h S
 replace S := S.nm
 ((try clear F); have F := S.fx)
 refine Wb F ?_
 exact hK _ _ ⟨⟨x.r, A, c, B, d⟩, rfl, rfl, St.star.2 S.tl.tl.p1⟩
theorem RMAs_ok (S : St h0 h (sagaA p D u s :: l)) (hl : s.R.length < 100000) (hr : ∀ r ∈ s.R, r.us.length < 1000000 ∧ r.gs.length < 1000000) :
  CallsH Tryz.prog 15 [.pointer (some ⟨p, 0, none⟩)] h fun v h' => St h0 h' (rmasA v s.R :: sagaA p D u s :: l) := by
 obtain ⟨k, t, o, rs, S⟩ := St.saga.1 S
 obtain ⟨vs, hvs, S⟩ := St.rmas.1 S.p4
 obtain ⟨A, c, rfl⟩ := S.sl
 have hvl : vs.length = s.R.length := by rw [← hvs, l_z]
 have hg := st_rd1 (off := 10) (S.perm (l' := _ :: (ownA RetV.enc 14 59 (.slice A vs.length c) vs :: (vs.map retRow ++ stockA k s.K :: timA t s.T :: obxA o s.key s.O :: l))) (by exact (List.Perm.cons _ List.perm_middle).trans (List.Perm.swap _ _ _)))
 simp only [sagE, l_p, l_o] at hg
 refine EN i15.eq_1 fun K hK => ?_
 refine Wb hg ?_
 refine st_make zR RetV.enc_len rfl S (by omega) (by omega) ?_
 intro w h' S'
 have hg' : rd1 h' (.pointer (some ⟨p, 10, none⟩)) = some (.slice A vs.length c) := by
  have := st_rd1 (off := 10) (S'.perm (l' := cellA p (sagE D u k t o (.slice A vs.length c) (.slice none 0 0) s) 84 :: _) (by exact (List.Perm.cons _ (List.Perm.cons _ List.perm_middle)).trans (((List.Perm.cons _ (List.Perm.swap _ _ _))).trans (List.Perm.swap _ _ _))))
  simpa only [sagE, l_p, l_o] using this
 clear S hg
 have S := S'
 clear S'
 obtain ⟨B, d, rfl⟩ := S.sl
 rw [l_ah] at S ⊢
 refine Wb hg' ?_
 refine lI (fun ρ h' => ρ 3 = .slice B vs.length d ∧ ρ 17 = .slice A vs.length c ∧ ρ 18 = .int .i64 vs.length ∧ ∃ (i : Nat) (ys : List RetV), ρ 19 = .int .i64 i ∧ i ≤ vs.length ∧ ys.length = i ∧ ys.map RetV.r = (vs.take i).map RetV.r ∧
  St h0 h' (ownA RetV.enc 14 59 (.slice B vs.length d) (ys ++ List.replicate (vs.length - i) zR) :: ownA RetV.enc 14 59 (.slice A vs.length c) vs :: (ys.map retRow ++ (vs.map retRow ++ (cellA p (sagE D u k t o (.slice A vs.length c) (.slice none 0 0) s) 84 :: stockA k s.K :: timA t s.T :: obxA o s.key s.O :: l))))) (fun ρ _ => vs.length - (iv (ρ 19)).toNat) ?_ ?_
 ·refine Wa ?_
  exact ⟨0, [], rfl, by omega, rfl, rfl, S⟩
 clear S hg'
 rintro ρ h J hJ ⟨e3, e17, e18, i, ys, e19, hi, hyl, hyp, S⟩
 refine Wc e18 e19 ?_
 refine cD (fun hlt => ?_) (fun hlt => ?_)
 ·have hil : i < vs.length := by omega
  have hmem := l_v hil
  obtain ⟨b1, o1, hA, q1⟩ := (S.p1.arr RetV.enc_len).at hil
  have hin : ∀ {h' : Heap} {L : List HP}, St h0 h' L → (∀ x ∈ vs.map retRow, x ∈ L) → Arr zEnc 1 h' vs[i].A vs[i].r.us ∧ Arr zEnc 1 h' vs[i].B vs[i].r.gs := fun S hL => retRow_in S (hL _ (l_ai hmem))
  have hrl := hr vs[i].r (by rw [← hvs]; exact l_ai hmem)
  have hwl : i < (ys ++ List.replicate (vs.length - i) zR).length := by rw [l_m, l_ah]; omega
  have hset : ∀ y : RetV, (ys ++ List.replicate (vs.length - i) zR).set i y = (ys ++ [y]) ++ List.replicate (vs.length - (i + 1)) zR := fun y => by
   rw [List.set_append_right _ _ (by omega), hyl, Nat.sub_self, show vs.length - i = vs.length - (i + 1) + 1 by omega, List.replicate_succ, l_h, l_q]
   rfl
  have htk : (vs.take (i + 1)).map RetV.r = (vs.take i).map RetV.r ++ [vs[i].r] := by rw [l_t hil, l_al]; rfl
  generalize vs[i] = x at *
  refine We e17 e19 hA q1 ?_
  (revert S; (try clear F); refine AL fun g h S F => ?_)
  refine Wd F @zR.eq_1 @Ret.zero.eq_1 ?_
  refine tS S rfl rfl (l_a rfl) ?_
  clear S F q1
  intro h S
  rw [RetV.enc] at S
  replace S := S.nm
  ((try clear F); have F := S.fx)
  refine Wb F ?_
  rw [show [Value.int .i64 x.r.num, .int .i64 x.r.ord, .int .i64 x.r.rea, .int .i64 x.r.want, .int .i64 x.r.res, .bool x.r.cred, .int .i64 x.r.state, .int .i64 x.r.day, .slice x.A x.r.us.length x.c, .slice x.B x.r.gs.length x.d, .int .i64 x.r.worth, .int .i64 x.r.paid, .int .i64 x.r.credd, .int .i64 x.r.given] = x.enc from rfl]
  refine cI (RClone_ok x (fun h' S => (hin S fun z hz => by simp only [l_e, l_y]; exact .inr (.inr (.inr (.inr (.inl hz))))).1) (fun h' S => (hin S fun z hz => by simp only [l_e, l_y]; exact .inr (.inr (.inr (.inr (.inl hz))))).2) hrl.1 hrl.2 S) ?_
  clear S F
  rintro _ h ⟨y, rfl, hy, S⟩
  obtain ⟨b, rfl⟩ := S.p2.ownAt (by omega)
  refine Wc e3 e19 ?_
  refine st_setOwn RetV.enc_len (i := i) (x := y) S.p2 hwl rfl rfl rfl rfl ?_
  clear S
  intro h S
  rw [hset] at S
  refine Wb e19 ?_
  refine hJ _ _ ?_ ?_
  ·refine Wd e3 e17 e18 ?_
   refine ⟨i + 1, ys ++ [y], rfl, by omega, by rw [l_m, hyl]; rfl, by rw [htk, l_al, hyp, ← hy]; rfl, ?_⟩
   rw [l_al, l_q (ys.map retRow)]
   have S : St h0 h (_ :: _ :: retRow y :: (ys.map retRow ++ _)) := S.p2.tl.p1.p2.p2
   exact S.perm (.cons _ (.cons _ List.perm_middle.symm))
  ·refine Wb e19 ?_
   omega
 obtain rfl : i = vs.length := by omega
 rw [Nat.sub_self, List.replicate_zero, l_am] at S
 rw [l_aj] at hyp
 refine Wb e3 ?_
 refine hK _ _ (St.rmas.2 ⟨ys, by rw [hyp, hvs], ?_⟩)
 have e1 : ((ys.map retRow) ++ ((vs.map retRow) ++ ([cellA p (sagE D u k t o (.slice A vs.length c) (.slice none 0 0) s) 84, stockA k s.K, timA t s.T, obxA o s.key s.O] ++ l))).Perm ((vs.map retRow) ++ ((ys.map retRow) ++ ([cellA p (sagE D u k t o (.slice A vs.length c) (.slice none 0 0) s) 84, stockA k s.K, timA t s.T, obxA o s.key s.O] ++ l))) := List.perm_append_comm_assoc _ _ _
 have e2 : ((ys.map retRow) ++ ([cellA p (sagE D u k t o (.slice A vs.length c) (.slice none 0 0) s) 84, stockA k s.K, timA t s.T, obxA o s.key s.O] ++ l)).Perm ([cellA p (sagE D u k t o (.slice A vs.length c) (.slice none 0 0) s) 84, stockA k s.K, timA t s.T, obxA o s.key s.O] ++ ((ys.map retRow) ++ l)) := List.perm_append_comm_assoc _ _ _
 have S1 := S.swap.perm (l' := _ :: ((vs.map retRow) ++ ([cellA p (sagE D u k t o (.slice A vs.length c) (.slice none 0 0) s) 84, stockA k s.K, timA t s.T, obxA o s.key s.O] ++ (ownA RetV.enc 14 59 (.slice B vs.length d) ys :: ((ys.map retRow) ++ l)))))
  (List.Perm.cons _ ((List.Perm.cons _ (e1.trans (List.Perm.append_left _ e2))).trans (List.perm_middle.symm.trans (List.Perm.append_left _ List.perm_middle.symm))))
 have S2 := St.rmas.2 ⟨vs, hvs, S1⟩
 have S3 : St h0 h (rmasA _ s.R :: cellA p _ _ :: stockA k s.K :: timA t s.T :: obxA o s.key s.O :: _) := S2
 have S4 := St.saga.2 ⟨k, t, o, _, S3.p4.p4.p4.p4⟩
 exact S4.swap.perm (List.Perm.cons _ List.perm_middle.symm)
end
end
section
set_option maxHeartbeats 4000000
def partV (a n of : Int) : Int × Int := if a < 0 ∨ 1125899906842624 < a then (0, 9) else if of < 1 ∨ n < 0 ∨ of < n then (0, 1) else (a * n / of, 0)
theorem CPart_ok (a n of : Int) (ha : I64 a) (hn : I64 n) (ho : I64 of) (h : Heap) : CallsH Tryz.prog 164 [.int .i64 a, .int .i64 n, .int .i64 of] h fun v h' => v = .tuple #[.int .i64 (partV a n of).1, .int .i64 (partV a n of).2] ∧ h' = h := by
 obtain ⟨ha1, ha2⟩ := ha
 obtain ⟨hn1, hn2⟩ := hn
 obtain ⟨ho1, ho2⟩ := ho
 have hdef : partV a n of = if a < 0 ∨ 1125899906842624 < a then (0, 9) else if of < 1 ∨ n < 0 ∨ of < n then (0, 1) else (a * n / of, 0) := rfl
 by_cases c1 : a < 0
 ·rw [if_pos (.inl c1)] at hdef
  rw [hdef]
  refine EN i164.eq_1 fun K hK => ?_
  refine Wb c1 ?_
  exact hK _ _ ⟨rfl, rfl⟩
 by_cases c2 : 1125899906842624 < a
 ·rw [if_pos (.inr c2)] at hdef
  rw [hdef]
  refine EN i164.eq_1 fun K hK => ?_
  refine Wc c1 c2 ?_
  exact hK _ _ ⟨rfl, rfl⟩
 rw [if_neg (fun h => h.elim c1 c2)] at hdef
 by_cases c3 : of < 1
 ·rw [if_pos (.inl c3)] at hdef
  rw [hdef]
  refine EN i164.eq_1 fun K hK => ?_
  refine Wd c1 c2 c3 ?_
  exact hK _ _ ⟨rfl, rfl⟩
 by_cases c4 : n < 0
 ·rw [if_pos (.inr (.inl c4))] at hdef
  rw [hdef]
  refine EN i164.eq_1 fun K hK => ?_
  refine We c1 c2 c3 c4 ?_
  exact hK _ _ ⟨rfl, rfl⟩
 by_cases c5 : of < n
 ·rw [if_pos (.inr (.inr c5))] at hdef
  rw [hdef]
  refine EN i164.eq_1 fun K hK => ?_
  refine Wf c1 c2 c3 c4 c5 ?_
  exact hK _ _ ⟨rfl, rfl⟩
 rw [if_neg (fun h => h.elim c3 (fun h => h.elim c4 c5))] at hdef
 rw [hdef]
 obtain ⟨x, rfl⟩ := l_u (show 0 ≤ a by omega)
 obtain ⟨y, rfl⟩ := l_u (show 0 ≤ n by omega)
 obtain ⟨z, rfl⟩ := l_u (show 0 ≤ of by omega)
 have hxy : x * y ≤ x * z := Nat.mul_le_mul_left _ (by omega)
 have hq : x * y / z ≤ x := Nat.div_le_of_le_mul (by rw [Nat.mul_comm z x]; exact hxy)
 have hhi : x * y / 18446744073709551616 < z := by
  rw [Nat.div_lt_iff_lt_mul (by decide)]
  have : x * z ≤ 1125899906842624 * z := Nat.mul_le_mul_right _ (by omega)
  omega
 have hdm : x * y / 18446744073709551616 * 18446744073709551616 + x * y % 18446744073709551616 = x * y := by omega
 refine EN i164.eq_1 fun K hK => ?_
 refine Wf c1 c2 c3 c4 c5 ?_
 refine cI (Mul64_ok x y (by omega) (by omega) _) ?_
 rintro _ _ ⟨rfl, rfl⟩
 refine Wa ?_
 refine cI (Div64_ok _ _ z hhi (by omega) (Nat.mod_lt _ (by decide)) _) ?_
 rintro _ _ ⟨rfl, rfl⟩
 rw [hdm]
 refine Wa ?_
 refine hK _ _ ⟨?_, rfl⟩
 have e : (x : Int) * y / z = ((x * y / z : Nat) : Int) := by rw [Int.natCast_ediv, Int.natCast_mul]
 have hqx : ((x * y / z : Nat) : Int) ≤ x := Int.ofNat_le.2 hq
 have hq0 : (0 : Int) ≤ ((x * y / z : Nat) : Int) := Int.natCast_nonneg _
 rw [e]
 generalize ((x * y / z : Nat) : Int) = w at *
 rw [wrap_i64 (by omega) (by omega)]
theorem Points_ok (a k : Int) (ha : I64 a) (hk : I64 k) (h : Heap) : CallsH Tryz.prog 135 [.int .i64 a, .int .i64 k] h fun v h' => v = .tuple #[.int .i64 (partV a k 10000).1, .int .i64 (partV a k 10000).2] ∧ h' = h := by
 obtain ⟨hk1, hk2⟩ := id hk
 refine EN i135.eq_1 fun K hK => Wa ?_
 refine cI (CPart_ok a k 10000 ha hk ⟨by decide, by decide⟩ _) ?_
 rintro _ _ ⟨rfl, rfl⟩
 refine Wa ?_
 exact hK _ _ ⟨rfl, rfl⟩
end
section
set_option maxHeartbeats 4000000
def isR (n : Int) : Prop := 0 ≤ n ∧ n < 4
def Pol.feeR (p : Pol) (r : Int) : Int := if r = 0 then p.f0 else if r = 1 then p.f1 else if r = 2 then p.f2 else p.f3
def Pol.gsh (p : Pol) (g : Int) : Int := if g = 0 then p.s0 else if g = 1 then p.s1 else if g = 2 then p.s2 else p.s3
def Pol.gto (p : Pol) (g : Int) : Int := if g = 0 then p.t0 else if g = 1 then p.t1 else if g = 2 then p.t2 else p.t3
def wrt (p : Pol) (sh r g : Int) : Int := sh * p.gsh g / 10000 - sh * p.gsh g / 10000 * p.feeR r / 10000
theorem isR4 {n : Int} (h : isR n) : n = 0 ∨ n = 1 ∨ n = 2 ∨ n = 3 := by obtain ⟨h1, h2⟩ := h; omega
theorem fee_pts {p : Pol} (hp : p.right) (r : Int) : okPts (p.feeR r) := by
 obtain ⟨⟨h0, h1, h2, h3⟩, _⟩ := hp
 unfold Pol.feeR
 (repeat' split) <;> assumption
theorem gsh_pts {p : Pol} (hp : p.right) (g : Int) : okPts (p.gsh g) := by
 obtain ⟨_, ⟨⟨h0, _⟩, ⟨h1, _⟩, ⟨h2, _⟩, ⟨h3, _⟩⟩, _⟩ := hp
 unfold Pol.gsh
 (repeat' split) <;> assumption
theorem part_le {a n : Int} (ha : 0 ≤ a) (hn : okPts n) : 0 ≤ a * n / 10000 ∧ a * n / 10000 ≤ a := by
 obtain ⟨h1, h2⟩ := hn
 have e1 : 0 ≤ a * n := Int.mul_nonneg ha h1
 have e2 : a * n ≤ a * 10000 := Int.mul_le_mul_of_nonneg_left h2 ha
 omega
theorem partV_in {a n : Int} (ha : 0 ≤ a) (ha2 : a ≤ 1125899906842624) (hn : okPts n) : partV a n 10000 = (a * n / 10000, 0) := by
 obtain ⟨h1, h2⟩ := hn
 rw [partV, if_neg (by omega), if_neg (by omega)]
theorem wrt_bound {p : Pol} {sh r g : Int} (hp : p.right) (h0 : 0 ≤ sh) : 0 ≤ wrt p sh r g ∧ wrt p sh r g ≤ sh := by
 have h1 := part_le h0 (gsh_pts hp g)
 have h2 := part_le h1.1 (fee_pts hp r)
 unfold wrt
 omega
theorem rright_ok (p : Pol) (h : Heap) : CallsH Tryz.prog 133 [.agg p.enc.toArray] h fun v h' => v = .bool (dcd p.right) ∧ Fr h h' [] := by
 have S := St.nil h
 refine EN i133.eq_1 fun K hK => Wa ?_
 (revert S; (try clear F); refine AL fun b h S F => ?_)
 refine Wc F @Pol.enc.eq_1 ?_
 (revert S; (try clear F); refine AL fun g h S F => ?_)
 have S := S.cellOwn (enc := Pol.enc) (sz := 16) (ys := [p]) Pol.enc_len rfl (by simp)
 clear F
 refine Wa ?_
 refine cI (Right_ok (xs := [p]) (S.arr Pol.enc_len) rfl (by simp)) ?_
 rintro _ h' ⟨rfl, hf⟩
 refine Wa ?_
 refine hK _ _ ⟨?_, (S.frame hf).fr⟩
 by_cases hr : p.right
 ·rw [dT hr, dT ⟨by simp, by simpa using hr⟩]
 ·rw [dF hr, dF fun h => hr (h.2 p (by simp))]
theorem ris_ok (n : Int) (h : Heap) : CallsH Tryz.prog 134 [.int .i64 n] h fun v h' => v = .bool (dcd (isR n)) ∧ h' = h := by
 by_cases h1 : 0 ≤ n
 ·by_cases h2 : n < 4
  ·refine EN i134.eq_1 fun K hK => ?_
   refine Wc h1 h2 ?_
   exact hK _ _ ⟨by rw [dT ⟨h1, h2⟩], rfl⟩
  ·refine EN i134.eq_1 fun K hK => ?_
   refine Wc h1 h2 ?_
   exact hK _ _ ⟨by rw [dF fun h => h2 h.2], rfl⟩
 ·refine EN i134.eq_1 fun K hK => ?_
  refine Wb h1 ?_
  exact hK _ _ ⟨by rw [dF fun h => h1 h.1], rfl⟩
theorem Fee_ok (p : Pol) (sum r : Int) (hp : p.right) (hr : isR r) (h0 : 0 ≤ sum) (h1 : sum ≤ 1125899906842624) (h : Heap) : CallsH Tryz.prog 136 [.agg p.enc.toArray, .int .i64 sum, .int .i64 r] h fun v h' => v = .tuple #[.int .i64 (sum * p.feeR r / 10000), .int .i64 0] ∧ Fr h h' [] := by
 have hf := fee_pts hp r
 have hv := partV_in h0 h1 hf
 have S := St.nil h
 refine EN i136.eq_1 fun K hK => Wa ?_
 (revert S; (try clear F); refine AL fun b h S F => ?_)
 refine Wc F @Pol.enc.eq_1 ?_
 refine cI (rright_ok p _) ?_
 rintro _ h ⟨rfl, f1⟩
 have S := S.frame f1
 rw [dT hp]
 refine Wa ?_
 refine cI (ris_ok r _) ?_
 rintro _ _ ⟨rfl, rfl⟩
 rw [dT hr]
 ((try clear F); have F := S.fx)
 rcases isR4 hr with rfl | rfl | rfl | rfl <;>
 ·refine Wc F @Pol.enc.eq_1 ?_
  refine cI (Points_ok _ _ ⟨by omega, by omega⟩ ⟨?_, ?_⟩ _) ?_
  ·have := hf.1; simp only [Pol.feeR] at this; simp at this; omega
  ·have := hf.2; simp only [Pol.feeR] at this; simp at this; omega
  rintro _ _ ⟨rfl, rfl⟩
  simp only [Pol.feeR] at hv ⊢
  simp at hv ⊢
  rw [hv]
  refine Wa ?_
  exact hK _ _ ⟨rfl, S.fr⟩
theorem Worth_ok (p : Pol) (sh r g : Int) (hp : p.right) (hr : isR r) (hg : isR g) (h0 : 0 ≤ sh) (h1 : sh ≤ 1125899906842624) (h : Heap) : CallsH Tryz.prog 89 [.agg p.enc.toArray, .int .i64 sh, .int .i64 r, .int .i64 g] h fun v h' => v = .tuple #[.int .i64 (wrt p sh r g), .int .i64 0] ∧ Fr h h' [] := by
 have hf := gsh_pts hp g
 have hv := partV_in h0 h1 hf
 have hl := part_le h0 hf
 have hl2 := part_le hl.1 (fee_pts hp r)
 have S := St.nil h
 refine EN i89.eq_1 fun K hK => Wa ?_
 (revert S; (try clear F); refine AL fun b h S F => ?_)
 refine Wc F @Pol.enc.eq_1 ?_
 refine cI (rright_ok p _) ?_
 rintro _ h ⟨rfl, f1⟩
 have S := S.frame f1
 rw [dT hp]
 refine Wa ?_
 refine cI (ris_ok r _) ?_
 rintro _ _ ⟨rfl, rfl⟩
 rw [dT hr]
 refine Wa ?_
 refine cI (ris_ok g _) ?_
 rintro _ _ ⟨rfl, rfl⟩
 rw [dT hg]
 have hgo : ∀ (x : Int) (h : Heap), x = p.gsh g → CallsH Tryz.prog 135 [.int .i64 sh, .int .i64 x] h fun v h' => v = .tuple #[.int .i64 (sh * p.gsh g / 10000), .int .i64 0] ∧ h' = h := fun x h e => by
  subst e
  have := Points_ok sh (p.gsh g) ⟨by omega, by omega⟩ ⟨by have := hf.1; omega, by have := hf.2; omega⟩ h
  rwa [hv] at this
 ((try clear F); have F := S.fx)
 have fin : ∀ (x : Int), x = p.gsh g → callT Tryz.prog 135 [.int .i64 sh, .int .i64 x] h (fun v h' => True) ⟨⟩ ⟨⟩ → True := fun _ _ _ => trivial
 clear fin
 rcases isR4 hg with rfl | rfl | rfl | rfl <;>
 ·refine Wc F @Pol.enc.eq_1 ?_
  refine cI (hgo _ _ (by simp [Pol.gsh])) ?_
  rintro _ _ ⟨rfl, rfl⟩
  refine Wc F @Pol.enc.eq_1 ?_
  refine cI (Fee_ok p _ r hp hr hl.1 (by omega) _) ?_
  rintro _ h ⟨rfl, f2⟩
  refine Wa ?_
  exact hK _ _ ⟨rfl, (S.frame f2).fr⟩
end
section
set_option maxHeartbeats 8000000
theorem rsums_ok (x : RetV) (h : Heap) : CallsH Tryz.prog 163 [.agg x.enc.toArray] h fun v h' => v = .bool (dcd (okMon x.r.worth ∧ okMon x.r.paid ∧ okMon x.r.credd ∧ okMon x.r.given)) ∧ Fr h h' [] := by
 have S := St.nil h
 have z4 : ∀ z : Value, zerosL [z] 4 = [z, z, z, z] := fun _ => rfl
 refine EN i163.eq_1 fun K hK => Wa ?_
 (revert S; (try clear F); refine AL fun b h S F => ?_)
 refine Wd F @RetV.enc.eq_1 z4 ?_
 (revert S; (try clear F); refine AL fun g h S F => ?_)
 refine Wb F ?_
 by_cases a1 : x.r.worth < 0
 ·(refine loop_unroll 5 ?_); (refine Wc F a1 ?_); exact hK _ _ ⟨by rw [dF fun h => by have := h.1.1; omega], S.fr⟩
 by_cases a2 : 1125899906842624 < x.r.worth
 ·(refine loop_unroll 5 ?_); (refine Wd F a1 a2 ?_); exact hK _ _ ⟨by rw [dF fun h => by have := h.1.2; omega], S.fr⟩
 by_cases b1 : x.r.paid < 0
 ·(refine loop_unroll 5 ?_); (refine We F a1 a2 b1 ?_); exact hK _ _ ⟨by rw [dF fun h => by have := h.2.1.1; omega], S.fr⟩
 by_cases b2 : 1125899906842624 < x.r.paid
 ·(refine loop_unroll 5 ?_); (refine Wf F a1 a2 b1 b2 ?_); exact hK _ _ ⟨by rw [dF fun h => by have := h.2.1.2; omega], S.fr⟩
 by_cases c1 : x.r.credd < 0
 ·(refine loop_unroll 5 ?_); (refine Wg F a1 a2 b1 b2 c1 ?_); exact hK _ _ ⟨by rw [dF fun h => by have := h.2.2.1.1; omega], S.fr⟩
 by_cases c2 : 1125899906842624 < x.r.credd
 ·(refine loop_unroll 5 ?_); (refine Wh F a1 a2 b1 b2 c1 c2 ?_); exact hK _ _ ⟨by rw [dF fun h => by have := h.2.2.1.2; omega], S.fr⟩
 by_cases d1 : x.r.given < 0
 ·(refine loop_unroll 5 ?_); (refine Wi F a1 a2 b1 b2 c1 c2 d1 ?_); exact hK _ _ ⟨by rw [dF fun h => by have := h.2.2.2.1; omega], S.fr⟩
 by_cases d2 : 1125899906842624 < x.r.given
 ·(refine loop_unroll 5 ?_); (refine Wi F a1 a2 b1 b2 c1 c2 (Pc d1 d2) ?_); exact hK _ _ ⟨by rw [dF fun h => by have := h.2.2.2.2; omega], S.fr⟩
 (refine loop_unroll 5 ?_); (refine Wi F a1 a2 b1 b2 c1 c2 (Pc d1 d2) ?_)
 exact hK _ _ ⟨by rw [dT ⟨⟨by omega, by omega⟩, ⟨by omega, by omega⟩, ⟨by omega, by omega⟩, by omega, by omega⟩], S.fr⟩
end
end Go.Proofs.YtcgbhcgfdcfmaaaGreat.MX
