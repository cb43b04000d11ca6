import Derived.Test.YtijnkebgciaieaaGreatK13
import Derived.Test.YtijnkebgciaieaaGreatK15
import Derived.Test.YtijnkebgciaieaaGreatIR
import Derived.Test.YtijnkebgciaieaaGreatK14
import Derived.Test.YtijnkebgciaieaaGreatK23
import Derived.Test.YtijnkebgciaieaaGreatK24
import Derived.Test.YtijnkebgciaieaaGreatK26
import Derived.Test.YtijnkebgciaieaaGreatK20
namespace Go.Proofs.YtijnkebgciaieaaGreat.MX
open Go Go.Proofs
set_option linter.unusedSimpArgs false
set_option linter.unusedVariables false
section
set_option maxHeartbeats 8000000
structure Ret where
 num : Int
 ord : Int
 rea : Int
 want : Int
 res : Int
 cred : Bool
 state : Int
 day : Int
 us : List Int
 gs : List Int
 worth : Int
 paid : Int
 credd : Int
 given : Int
structure RetV where
 r : Ret
 A : Option Addr
 c : Nat
 B : Option Addr
 d : Nat
def RetV.enc (x : RetV) : List Value := [.int .i64 x.r.num, .int .i64 x.r.ord, .int .i64 x.r.rea, .int .i64 x.r.want, .int .i64 x.r.res, .bool x.r.cred, .int .i64 x.r.state, .int .i64 x.r.day, .slice x.A x.r.us.length x.c, .slice x.B x.r.gs.length x.d, .int .i64 x.r.worth, .int .i64 x.r.paid, .int .i64 x.r.credd, .int .i64 x.r.given]
theorem RetV.enc_len (x : RetV) : x.enc.length = 14 := rfl
theorem RetV.enc_plain (x : RetV) : pC x.enc = true := rfl
def btw (n a b : Int) : Prop := a ≤ n ∧ n ≤ b
def unitOk (us gs : List Int) (k : Nat) : Prop := btw (us.getD k 0) 0 199 ∧ (0 < k → us.getD (k - 1) 0 < us.getD k 0) ∧ btw (gs.getD k 0) (-1) 4
def okUnits (us gs : List Int) : Prop := btw us.length 1 200 ∧ gs.length = us.length ∧ ∀ k, k < us.length → unitOk us gs k
theorem unitOk_snoc {us gs : List Int} {i : Nat} (h : ∀ k, k < i → unitOk us gs k) (hi : unitOk us gs i) : ∀ k, k < i + 1 → unitOk us gs k := fun k hk => by
 by_cases e : k = i
 ·rw [e]; exact hi
 ·exact h k (by omega)
theorem getD_at {us : List Int} {i : Nat} (hi : i < us.length) : us.getD i 0 = us[i] := by simp [l_s, hi]
def okMon (n : Int) : Prop := btw n 0 1125899906842624
def Ret.right (r : Ret) : Prop := btw r.num 1 100 ∧ btw r.ord 0 19 ∧ btw r.rea 0 3 ∧ btw r.want 0 1000 ∧ btw r.res (-1) 199 ∧ btw r.state 1 9 ∧ btw r.day 0 100000 ∧ okUnits r.us r.gs ∧ okMon r.worth ∧ okMon r.paid ∧ okMon r.credd ∧ okMon r.given
theorem between_ok (n a b : Int) (h : Heap) : CallsH Tryz.prog 110 [.int .i64 n, .int .i64 a, .int .i64 b] h fun v h' => v = .bool (dcd (btw n a b)) ∧ h' = h := by
 by_cases h1 : a ≤ n
 ·by_cases h2 : n ≤ b
  ·(refine eK c_rma_between (l_a rfl) fun K hK => ?_; (try simp (disch := first|omega|assumption|exact l_a rfl) only [go_sem, ↓wBk, simprocAttr, ir_rma_between]))
   (try simp (disch := first|omega|assumption|exact l_a rfl) only [go_sem, ↓wBk, simprocAttr, h1, h2])
   exact hK _ _ ⟨by rw [dT ⟨h1, h2⟩], rfl⟩
  ·(refine eK c_rma_between (l_a rfl) fun K hK => ?_; (try simp (disch := first|omega|assumption|exact l_a rfl) only [go_sem, ↓wBk, simprocAttr, ir_rma_between]))
   (try simp (disch := first|omega|assumption|exact l_a rfl) only [go_sem, ↓wBk, simprocAttr, h1, h2])
   exact hK _ _ ⟨by rw [dF fun h => h2 h.2], rfl⟩
 ·(refine eK c_rma_between (l_a rfl) fun K hK => ?_; (try simp (disch := first|omega|assumption|exact l_a rfl) only [go_sem, ↓wBk, simprocAttr, ir_rma_between]))
  (try simp (disch := first|omega|assumption|exact l_a rfl) only [go_sem, ↓wBk, simprocAttr, h1])
  exact hK _ _ ⟨by rw [dF fun h => h1 h.1], rfl⟩
end
section
set_option maxHeartbeats 8000000
structure Led where
 a : Int
 b : Int
 c : Int
 d : Int
 e : Int
structure Sag where
 K : List KU
 led : Led
 R : List Ret
 T : List Tm
 key : Int
 O : List Msg
 now : Int
def cfgA (D : Cfg) : HP := starsA (ownA Odr.enc 5 118 (.slice D.A1 D.os.length D.c1) D.os :: ownA Sup.enc 3 121 (.slice D.A2 D.ss.length D.c2) D.ss :: ownA Pol.enc 16 133 (.slice D.A3 D.ps.length D.c3) D.ps :: D.os.map oRow)
def retRow (x : RetV) : HP := starA (ownA zEnc 1 3 (.slice x.A x.r.us.length x.c) x.r.us) (ownA zEnc 1 3 (.slice x.B x.r.gs.length x.d) x.r.gs)
def rmasA (s : Value) (R : List Ret) : HP := exA fun vs : List RetV => starsA (pureA (vs.map RetV.r = R) :: ownA RetV.enc 14 66 s vs :: vs.map retRow)
def sagE (D : Cfg) (u : Value) (k t o : Nat) (rs sd : Value) (s : Sag) : List Value := [.slice D.A1 D.os.length D.c1, .slice D.A2 D.ss.length D.c2, .slice D.A3 D.ps.length D.c3, u, .pointer (some ⟨k, 0, none⟩), .int .i64 s.led.a, .int .i64 s.led.b, .int .i64 s.led.c, .int .i64 s.led.d, .int .i64 s.led.e, rs, .pointer (some ⟨t, 0, none⟩), .pointer (some ⟨o, 0, none⟩), .int .i64 s.now, sd]
def sagaA (p : Nat) (D : Cfg) (u : Value) (s : Sag) : HP := exA fun x : Nat × Nat × Nat × Value => starsA [cellA p (sagE D u x.1 x.2.1 x.2.2.1 x.2.2.2 (.slice none 0 0) s) 64, stockA x.1 s.K, timA x.2.1 s.T, obxA x.2.2.1 s.key s.O, rmasA x.2.2.2 s.R]
def stcA (D : Cfg) (u : Value) (U : List Unt) : HP := starA (cfgA D) (ownA Unt.enc 4 70 u U)
section
variable {h0 h : Heap} {l : List HP} {p : Nat} {D : Cfg} {u : Value} {s : Sag} {U : List Unt}
theorem cfgA_rd (S : St h0 h (cfgA D :: l)) : D.rd h := by
 have S := St.stars.1 S
 simp only [l_j] at S
 have R := rows_arr (L := [_, _, _]) S
 exact ⟨S.arr Odr.enc_len, fun o ho => (R o ho).1, S.p1.arr Sup.enc_len, S.p2.arr Pol.enc_len⟩
theorem stcA_rd (S : St h0 h (stcA D u U :: l)) : D.rd h ∧ ∃ A c, u = .slice A U.length c ∧ Arr Unt.enc 4 h A U := by
 have S := St.star.1 S
 refine ⟨cfgA_rd S, ?_⟩
 obtain ⟨A, c, rfl⟩ := S.p1.sl
 exact ⟨A, c, rfl, S.p1.arr Unt.enc_len⟩
theorem stcA_in (S : St h0 h l) (hm : stcA D u U ∈ l) : D.rd h ∧ ∃ A c, u = .slice A U.length c ∧ Arr Unt.enc 4 h A U := by
 obtain ⟨M, S⟩ := st_mem S hm
 exact stcA_rd S
theorem St.rmas {v : Value} {R : List Ret} : St h0 h (rmasA v R :: l) ↔ ∃ vs, vs.map RetV.r = R ∧ St h0 h (ownA RetV.enc 14 66 v vs :: (vs.map retRow ++ l)) := by
 rw [rmasA, St.ex]
 refine exists_congr fun vs => ?_
 rw [St.stars]
 exact St.pure
theorem St.saga : St h0 h (sagaA p D u s :: l) ↔ ∃ k t o rs, St h0 h (cellA p (sagE D u k t o rs (.slice none 0 0) s) 64 :: stockA k s.K :: timA t s.T :: obxA o s.key s.O :: rmasA rs s.R :: l) := by
 rw [sagaA, St.ex]
 constructor
 ·rintro ⟨⟨k, t, o, rs⟩, S⟩
  exact ⟨k, t, o, rs, St.stars.1 S⟩
 ·rintro ⟨k, t, o, rs, S⟩
  exact ⟨⟨k, t, o, rs⟩, St.stars.2 S⟩
theorem retRow_in {x : RetV} (S : St h0 h l) (hm : retRow x ∈ l) : Arr zEnc 1 h x.A x.r.us ∧ Arr zEnc 1 h x.B x.r.gs := by
 obtain ⟨M, S⟩ := st_mem S hm
 have S := St.star.1 S
 exact ⟨S.arr zEl, S.p1.arr zEl⟩
theorem okCfg.len {D : Cfg} (hok : okCfg D) : D.os.length ≤ 20 ∧ D.ss.length ≤ 20 ∧ D.ps.length ≤ 16 ∧ ∀ o ∈ D.os, o.ls.length ≤ 8 := by
 obtain ⟨k0, k1, k2, k3, k4, _⟩ := id hok
 exact ⟨k1, k2, k0.1, fun o ho => (k3 o ho).1.2.1.2⟩
theorem CfgClone_ok (C : Cfg) (r : ∀ h', St h0 h' l → C.rd h') (hok : okCfg C) (S : St h0 h l) :
  CallsH Tryz.prog 33 [.agg C.enc.toArray] h fun v h' => ∃ D : Cfg, v = .agg D.enc.toArray ∧ D.wf ∧ D.pu = C.pu ∧ St h0 h' (cfgA D :: l) := by
 obtain ⟨k1, k2, k3, k4⟩ := hok.len
 refine (OClone_ok C r (by omega) (by omega) (by omega) (fun o ho => by have := k4 o ho; omega) S).mono ?_
 rintro v h' ⟨D, rfl, hw, hp, S⟩
 exact ⟨D, rfl, hw, hp, St.stars.2 S⟩
theorem Ledger_nil (h : Heap) : CallsH Tryz.prog 14 [.pointer none] h fun v h' => v = .agg (List.toArray [.int .i64 0, .int .i64 0, .int .i64 0, .int .i64 0, .int .i64 0]) ∧ Fr h h' [] := by
 have S := St.nil h
 (refine eK c_saga_Saga_Ledger (l_a rfl) fun K hK => ?_; (try simp (disch := first|omega|assumption|exact l_a rfl) only [go_sem, ↓wBk, simprocAttr, ir_saga_Saga_Ledger]))
 (refine tA S ?_; clear S; intro g h S; (try simp only [sC, sN, l_h, l_i, Nat.zero_add, Nat.reduceAdd, l_j, l_k] at S); ((try clear F); have F := S.all; (try simp only [aC, aN, yC, and_true] at F)))
 (try simp (disch := first|omega|assumption|exact l_a rfl) only [go_sem, ↓wBk, simprocAttr])
 (refine tS (by first | exact S | exact S.p1 | exact S.p2 | exact S.p3 | exact S.p4 | exact S.p5 | exact S.p6 | exact S.p7 | exact S.p8 | exact S.p9 | exact S.p10 | exact S.p11) (by rfl) (by rfl) (l_a rfl) ?_; clear S; intro h S; (try simp only [sC, sN, l_h, l_i, Nat.zero_add, Nat.reduceAdd, l_j, l_k] at S); ((try clear F); have F := S.all; (try simp only [aC, aN, yC, and_true] at F)))
 (try simp (disch := first|omega|assumption|exact l_a rfl) only [go_sem, ↓wBk, simprocAttr, F])
 exact hK _ _ ⟨rfl, S.fr⟩
end
end
section
set_option maxHeartbeats 8000000
def Ret.zero : Ret := ⟨0, 0, 0, 0, 0, false, 0, 0, [], [], 0, 0, 0, 0⟩
def zR : RetV := ⟨Ret.zero, none, 0, none, 0⟩
section
variable {h0 h : Heap} {l : List HP} {p : Nat} {D : Cfg} {u : Value} {s : Sag} {U : List Unt}
theorem CloneI_ok {A : Option Addr} {n c : Nat} {xs : List Int} (S : St h0 h l) (ha : Arr zEnc 1 h A xs) (hn : n = xs.length) (hl : xs.length < 1000000000) :
  CallsH Tryz.prog 45 [.slice A n c] h fun v h' => St h0 h' (ownA zEnc 1 3 v xs :: l) :=
 (clone_ok (T := 3) (sz := 1) (bytes := 8) c_slices_Clone_int_int zEl (by omega) zEp rfl ha hn (arr_none ha) (by omega) (by omega)).mono fun v h' ⟨ho, hf, _⟩ => S.ownNew hf ho
theorem RClone_ok (x : RetV) (ha : ∀ h', St h0 h' l → Arr zEnc 1 h' x.A x.r.us) (hb : ∀ h', St h0 h' l → Arr zEnc 1 h' x.B x.r.gs) (l1 : x.r.us.length < 1000000) (l2 : x.r.gs.length < 1000000) (S : St h0 h l) :
  CallsH Tryz.prog 19 [.agg x.enc.toArray] h fun v h' => ∃ y : RetV, v = .agg y.enc.toArray ∧ y.r = x.r ∧ St h0 h' (retRow y :: l) := by
 (refine eK c_rma_Clone (l_a rfl) fun K hK => ?_; (try simp (disch := first|omega|assumption|exact l_a rfl) only [go_sem, ↓wBk, simprocAttr, ir_rma_Clone]))
 (refine tA S ?_; clear S; intro b h S; (try simp only [sC, sN, l_h, l_i, Nat.zero_add, Nat.reduceAdd, l_j, l_k] at S); ((try clear F); have F := S.all; (try simp only [aC, aN, yC, and_true] at F)))
 (try simp (disch := first|omega|assumption|exact l_a rfl) only [go_sem, ↓wBk, simprocAttr])
 (refine tA S ?_; clear S; intro g h S; (try simp only [sC, sN, l_h, l_i, Nat.zero_add, Nat.reduceAdd, l_j, l_k] at S); ((try clear F); have F := S.all; (try simp only [aC, aN, yC, and_true] at F)))
 have hg0 := st_rd1 (off := 8) S.p1
 have hg1 := st_rd1 (off := 9) S.p1
 simp only [RetV.enc, l_p, l_o] at hg0 hg1
 have hI : (fun h' => rd1 h' (.pointer (some ⟨b, 8, none⟩)) = some (.slice x.A x.r.us.length x.c) ∧ rd1 h' (.pointer (some ⟨b, 9, none⟩)) = some (.slice x.B x.r.gs.length x.d)) h := ⟨hg0, hg1⟩
 have rx : ∀ K t, readT (fun h' => rd1 h' (.pointer (some ⟨b, 8, none⟩)) = some (.slice x.A x.r.us.length x.c) ∧ rd1 h' (.pointer (some ⟨b, 9, none⟩)) = some (.slice x.B x.r.gs.length x.d)) (fun h' => rd1 h' (.pointer (some ⟨b, 8, none⟩))) K t = K (.slice x.A x.r.us.length x.c) := fun K t => rI (fun h' hh => hh.1) h hI
 have ry : ∀ K t, readT (fun h' => rd1 h' (.pointer (some ⟨b, 8, none⟩)) = some (.slice x.A x.r.us.length x.c) ∧ rd1 h' (.pointer (some ⟨b, 9, none⟩)) = some (.slice x.B x.r.gs.length x.d)) (fun h' => rd1 h' (.pointer (some ⟨b, 9, none⟩))) K t = K (.slice x.B x.r.gs.length x.d) := fun K t => rI (fun h' hh => hh.2) h hI
 (try simp (disch := first|omega|assumption|exact l_a rfl) only [go_sem, ↓wBk, simprocAttr])
 refine dI (fun h' => rd1 h' (.pointer (some ⟨b, 8, none⟩)) = some (.slice x.A x.r.us.length x.c) ∧ rd1 h' (.pointer (some ⟨b, 9, none⟩)) = some (.slice x.B x.r.gs.length x.d)) hI ?_
 (try simp (disch := first|omega|assumption|exact l_a rfl) only [go_sem, ↓wBk, simprocAttr, rx, ry])
 refine cI (CloneI_ok S (ha _ S.tl.tl) rfl (by omega)) ?_
 clear S F hg0 hg1 hI rx ry
 intro v h S
 obtain ⟨A, c, rfl⟩ := S.sl
 refine ⟨⟨st_rd1 (off := 8) S.p2, st_rd1 (off := 9) S.p2⟩, ?_⟩
 (try simp (disch := first|omega|assumption|exact l_a rfl) only [go_sem, ↓wBk, simprocAttr])
 refine cI (CloneI_ok S (hb _ S.tl.tl.tl) rfl (by omega)) ?_
 clear S
 intro v h S
 obtain ⟨B, d, rfl⟩ := S.sl
 (try simp (disch := first|omega|assumption|exact l_a rfl) only [go_sem, ↓wBk, simprocAttr])
 refine tS S.p3 rfl rfl (l_a rfl) ?_
 clear S
 intro h S
 rw [RetV.enc] at S
 (try simp only [sC, sN, l_h, l_i, Nat.zero_add, Nat.reduceAdd, l_j, l_k] at S)
 (try simp (disch := first|omega|assumption|exact l_a rfl) only [go_sem, ↓wBk, simprocAttr])
 refine tS S rfl rfl (l_a rfl) ?_
 clear S
 intro h S
 (try simp only [sC, sN, l_h, l_i, Nat.zero_add, Nat.reduceAdd, l_j, l_k] at S)
 ((try clear F); have F := S.all; (try simp only [aC, aN, yC, and_true] at F))
 (try simp (disch := first|omega|assumption|exact l_a rfl) only [go_sem, ↓wBk, simprocAttr, F])
 refine tS S.p3 rfl rfl (l_a rfl) ?_
 clear S F
 intro h S
 (try simp only [sC, sN, l_h, l_i, Nat.zero_add, Nat.reduceAdd, l_j, l_k] at S)
 ((try clear F); have F := S.all; (try simp only [aC, aN, yC, and_true] at F))
 (try simp (disch := first|omega|assumption|exact l_a rfl) only [go_sem, ↓wBk, simprocAttr, F])
 exact hK _ _ ⟨⟨x.r, A, c, B, d⟩, rfl, rfl, St.star.2 S.tl.tl.p1⟩
theorem RMAs_nil (h : Heap) : CallsH Tryz.prog 8 [.pointer none] h fun v h' => v = .slice none 0 0 ∧ h' = h := by
 (refine eK c_saga_Saga_RMAs (l_a rfl) fun K hK => ?_; (try simp (disch := first|omega|assumption|exact l_a rfl) only [go_sem, ↓wBk, simprocAttr, ir_saga_Saga_RMAs]))
 exact hK _ _ ⟨rfl, rfl⟩
theorem RMAs_ok (S : St h0 h (sagaA p D u s :: l)) (hl : s.R.length < 100000) (hr : ∀ r ∈ s.R, r.us.length < 1000000 ∧ r.gs.length < 1000000) :
  CallsH Tryz.prog 8 [.pointer (some ⟨p, 0, none⟩)] h fun v h' => St h0 h' (rmasA v s.R :: sagaA p D u s :: l) := by
 obtain ⟨k, t, o, rs, S⟩ := St.saga.1 S
 obtain ⟨vs, hvs, S⟩ := St.rmas.1 S.p4
 obtain ⟨A, c, rfl⟩ := S.sl
 have hvl : vs.length = s.R.length := by rw [← hvs, l_z]
 have hg := st_rd1 (off := 10) (S.perm (l' := _ :: (ownA RetV.enc 14 66 (.slice A vs.length c) vs :: (vs.map retRow ++ stockA k s.K :: timA t s.T :: obxA o s.key s.O :: l))) (by exact (List.Perm.cons _ List.perm_middle).trans (List.Perm.swap _ _ _)))
 simp only [sagE, l_p, l_o] at hg
 (refine eK c_saga_Saga_RMAs (l_a rfl) fun K hK => ?_; (try simp (disch := first|omega|assumption|exact l_a rfl) only [go_sem, ↓wBk, simprocAttr, ir_saga_Saga_RMAs]))
 (try simp (disch := first|omega|assumption|exact l_a rfl) only [go_sem, ↓wBk, simprocAttr, hg])
 refine st_make zR RetV.enc_len rfl S (by omega) (by omega) ?_
 intro w h' S'
 have hg' : rd1 h' (.pointer (some ⟨p, 10, none⟩)) = some (.slice A vs.length c) := by
  have := st_rd1 (off := 10) (S'.perm (l' := cellA p (sagE D u k t o (.slice A vs.length c) (.slice none 0 0) s) 64 :: _) (by exact (List.Perm.cons _ (List.Perm.cons _ List.perm_middle)).trans (((List.Perm.cons _ (List.Perm.swap _ _ _))).trans (List.Perm.swap _ _ _))))
  simpa only [sagE, l_p, l_o] using this
 clear S hg
 have S := S'
 clear S'
 obtain ⟨B, d, rfl⟩ := S.sl
 rw [l_ah] at S ⊢
 (try simp (disch := first|omega|assumption|exact l_a rfl) only [go_sem, ↓wBk, simprocAttr, hg'])
 refine lI (fun ρ h' => ρ 3 = .slice B vs.length d ∧ ρ 17 = .slice A vs.length c ∧ ρ 18 = .int .i64 vs.length ∧ ∃ (i : Nat) (ys : List RetV), ρ 19 = .int .i64 i ∧ i ≤ vs.length ∧ ys.length = i ∧ ys.map RetV.r = (vs.take i).map RetV.r ∧
  St h0 h' (ownA RetV.enc 14 66 (.slice B vs.length d) (ys ++ List.replicate (vs.length - i) zR) :: ownA RetV.enc 14 66 (.slice A vs.length c) vs :: (ys.map retRow ++ (vs.map retRow ++ (cellA p (sagE D u k t o (.slice A vs.length c) (.slice none 0 0) s) 64 :: stockA k s.K :: timA t s.T :: obxA o s.key s.O :: l))))) (fun ρ _ => vs.length - (iv (ρ 19)).toNat) ?_ ?_
 ·(try simp (disch := first|omega|assumption|exact l_a rfl) only [go_sem, ↓wBk, simprocAttr])
  exact ⟨0, [], rfl, by omega, rfl, rfl, S⟩
 clear S hg'
 rintro ρ h J hJ ⟨e3, e17, e18, i, ys, e19, hi, hyl, hyp, S⟩
 (try simp (disch := first|omega|assumption|exact l_a rfl) only [go_sem, ↓wBk, simprocAttr, e18, e19])
 refine cD (fun hlt => ?_) (fun hlt => ?_)
 ·have hil : i < vs.length := by omega
  have hmem := l_v hil
  obtain ⟨b1, o1, hA, q1⟩ := (S.p1.arr RetV.enc_len).at hil
  have hin : ∀ {h' : Heap} {L : List HP}, St h0 h' L → (∀ x ∈ vs.map retRow, x ∈ L) → Arr zEnc 1 h' vs[i].A vs[i].r.us ∧ Arr zEnc 1 h' vs[i].B vs[i].r.gs := fun S hL => retRow_in S (hL _ (l_ai hmem))
  have hrl := hr vs[i].r (by rw [← hvs]; exact l_ai hmem)
  have hwl : i < (ys ++ List.replicate (vs.length - i) zR).length := by rw [l_m, l_ah]; omega
  have hset : ∀ y : RetV, (ys ++ List.replicate (vs.length - i) zR).set i y = (ys ++ [y]) ++ List.replicate (vs.length - (i + 1)) zR := fun y => by
   rw [List.set_append_right _ _ (by omega), hyl, Nat.sub_self, show vs.length - i = vs.length - (i + 1) + 1 by omega, List.replicate_succ, l_h, l_q]
   rfl
  have htk : (vs.take (i + 1)).map RetV.r = (vs.take i).map RetV.r ++ [vs[i].r] := by rw [l_t hil, l_al]; rfl
  generalize vs[i] = x at *
  (try simp (disch := first|omega|assumption|exact l_a rfl) only [go_sem, ↓wBk, simprocAttr, e17, e19, hA, q1])
  (refine tA S ?_; clear S; intro g h S; (try simp only [sC, sN, l_h, l_i, Nat.zero_add, Nat.reduceAdd, l_j, l_k] at S); ((try clear F); have F := S.all; (try simp only [aC, aN, yC, and_true] at F)))
  (try simp (disch := first|omega|assumption|exact l_a rfl) only [go_sem, ↓wBk, simprocAttr, F, zR, Ret.zero])
  refine tS S rfl rfl (l_a rfl) ?_
  clear S F q1
  intro h S
  rw [RetV.enc] at S
  (try simp only [sC, sN, l_h, l_i, Nat.zero_add, Nat.reduceAdd, l_j, l_k] at S)
  ((try clear F); have F := S.all; (try simp only [aC, aN, yC, and_true] at F))
  (try simp (disch := first|omega|assumption|exact l_a rfl) only [go_sem, ↓wBk, simprocAttr, F])
  rw [show [Value.int .i64 x.r.num, .int .i64 x.r.ord, .int .i64 x.r.rea, .int .i64 x.r.want, .int .i64 x.r.res, .bool x.r.cred, .int .i64 x.r.state, .int .i64 x.r.day, .slice x.A x.r.us.length x.c, .slice x.B x.r.gs.length x.d, .int .i64 x.r.worth, .int .i64 x.r.paid, .int .i64 x.r.credd, .int .i64 x.r.given] = x.enc from rfl]
  refine cI (RClone_ok x (fun h' S => (hin S fun z hz => by simp only [l_e, l_y]; exact .inr (.inr (.inr (.inr (.inl hz))))).1) (fun h' S => (hin S fun z hz => by simp only [l_e, l_y]; exact .inr (.inr (.inr (.inr (.inl hz))))).2) hrl.1 hrl.2 S) ?_
  clear S F
  rintro _ h ⟨y, rfl, hy, S⟩
  obtain ⟨b, rfl⟩ := S.p2.ownAt (by omega)
  (try simp (disch := first|omega|assumption|exact l_a rfl) only [go_sem, ↓wBk, simprocAttr, e3, e19])
  refine st_setOwn RetV.enc_len (i := i) (x := y) S.p2 hwl rfl rfl rfl rfl ?_
  clear S
  intro h S
  rw [hset] at S
  (try simp (disch := first|omega|assumption|exact l_a rfl) only [go_sem, ↓wBk, simprocAttr, e19])
  refine hJ _ _ ?_ ?_
  ·(try simp (disch := first|omega|assumption|exact l_a rfl) only [go_sem, ↓wBk, simprocAttr, e3, e17, e18])
   refine ⟨i + 1, ys ++ [y], rfl, by omega, by rw [l_m, hyl]; rfl, by rw [htk, l_al, hyp, ← hy]; rfl, ?_⟩
   rw [l_al, l_q (ys.map retRow)]
   have S : St h0 h (_ :: _ :: retRow y :: (ys.map retRow ++ _)) := S.p2.tl.p1.p2.p2
   exact S.perm (.cons _ (.cons _ List.perm_middle.symm))
  ·(try simp (disch := first|omega|assumption|exact l_a rfl) only [go_sem, ↓wBk, simprocAttr, e19])
   omega
 obtain rfl : i = vs.length := by omega
 rw [Nat.sub_self, List.replicate_zero, l_am] at S
 rw [l_aj] at hyp
 (try simp (disch := first|omega|assumption|exact l_a rfl) only [go_sem, ↓wBk, simprocAttr, e3])
 refine hK _ _ (St.rmas.2 ⟨ys, by rw [hyp, hvs], ?_⟩)
 have e1 : ((ys.map retRow) ++ ((vs.map retRow) ++ ([cellA p (sagE D u k t o (.slice A vs.length c) (.slice none 0 0) s) 64, stockA k s.K, timA t s.T, obxA o s.key s.O] ++ l))).Perm ((vs.map retRow) ++ ((ys.map retRow) ++ ([cellA p (sagE D u k t o (.slice A vs.length c) (.slice none 0 0) s) 64, stockA k s.K, timA t s.T, obxA o s.key s.O] ++ l))) := List.perm_append_comm_assoc _ _ _
 have e2 : ((ys.map retRow) ++ ([cellA p (sagE D u k t o (.slice A vs.length c) (.slice none 0 0) s) 64, stockA k s.K, timA t s.T, obxA o s.key s.O] ++ l)).Perm ([cellA p (sagE D u k t o (.slice A vs.length c) (.slice none 0 0) s) 64, stockA k s.K, timA t s.T, obxA o s.key s.O] ++ ((ys.map retRow) ++ l)) := List.perm_append_comm_assoc _ _ _
 have S1 := S.swap.perm (l' := _ :: ((vs.map retRow) ++ ([cellA p (sagE D u k t o (.slice A vs.length c) (.slice none 0 0) s) 64, stockA k s.K, timA t s.T, obxA o s.key s.O] ++ (ownA RetV.enc 14 66 (.slice B vs.length d) ys :: ((ys.map retRow) ++ l)))))
  (List.Perm.cons _ ((List.Perm.cons _ (e1.trans (List.Perm.append_left _ e2))).trans (List.perm_middle.symm.trans (List.Perm.append_left _ List.perm_middle.symm))))
 have S2 := St.rmas.2 ⟨vs, hvs, S1⟩
 have S3 : St h0 h (rmasA _ s.R :: cellA p _ _ :: stockA k s.K :: timA t s.T :: obxA o s.key s.O :: _) := S2
 have S4 := St.saga.2 ⟨k, t, o, _, S3.p4.p4.p4.p4⟩
 exact S4.swap.perm (List.Perm.cons _ List.perm_middle.symm)
end
end
section
set_option maxHeartbeats 4000000
def partV (a n of : Int) : Int × Int := if a < 0 ∨ 1125899906842624 < a then (0, 9) else if of < 1 ∨ n < 0 ∨ of < n then (0, 1) else (a * n / of, 0)
theorem CPart_ok (a n of : Int) (ha : I64 a) (hn : I64 n) (ho : I64 of) (h : Heap) : CallsH Tryz.prog 149 [.int .i64 a, .int .i64 n, .int .i64 of] h fun v h' => v = .tuple #[.int .i64 (partV a n of).1, .int .i64 (partV a n of).2] ∧ h' = h := by
 obtain ⟨ha1, ha2⟩ := ha
 obtain ⟨hn1, hn2⟩ := hn
 obtain ⟨ho1, ho2⟩ := ho
 have hdef : partV a n of = if a < 0 ∨ 1125899906842624 < a then (0, 9) else if of < 1 ∨ n < 0 ∨ of < n then (0, 1) else (a * n / of, 0) := rfl
 by_cases c1 : a < 0
 ·rw [if_pos (.inl c1)] at hdef
  rw [hdef]
  (refine eK c_cents_Part (l_a rfl) fun K hK => ?_; (try simp (disch := first|omega|assumption|exact l_a rfl) only [go_sem, ↓wBk, simprocAttr, ir_cents_Part]))
  (try simp (disch := first|omega|assumption|exact l_a rfl) only [go_sem, ↓wBk, simprocAttr, c1])
  exact hK _ _ ⟨rfl, rfl⟩
 by_cases c2 : 1125899906842624 < a
 ·rw [if_pos (.inr c2)] at hdef
  rw [hdef]
  (refine eK c_cents_Part (l_a rfl) fun K hK => ?_; (try simp (disch := first|omega|assumption|exact l_a rfl) only [go_sem, ↓wBk, simprocAttr, ir_cents_Part]))
  (try simp (disch := first|omega|assumption|exact l_a rfl) only [go_sem, ↓wBk, simprocAttr, c1, c2])
  exact hK _ _ ⟨rfl, rfl⟩
 rw [if_neg (fun h => h.elim c1 c2)] at hdef
 by_cases c3 : of < 1
 ·rw [if_pos (.inl c3)] at hdef
  rw [hdef]
  (refine eK c_cents_Part (l_a rfl) fun K hK => ?_; (try simp (disch := first|omega|assumption|exact l_a rfl) only [go_sem, ↓wBk, simprocAttr, ir_cents_Part]))
  (try simp (disch := first|omega|assumption|exact l_a rfl) only [go_sem, ↓wBk, simprocAttr, c1, c2, c3])
  exact hK _ _ ⟨rfl, rfl⟩
 by_cases c4 : n < 0
 ·rw [if_pos (.inr (.inl c4))] at hdef
  rw [hdef]
  (refine eK c_cents_Part (l_a rfl) fun K hK => ?_; (try simp (disch := first|omega|assumption|exact l_a rfl) only [go_sem, ↓wBk, simprocAttr, ir_cents_Part]))
  (try simp (disch := first|omega|assumption|exact l_a rfl) only [go_sem, ↓wBk, simprocAttr, c1, c2, c3, c4])
  exact hK _ _ ⟨rfl, rfl⟩
 by_cases c5 : of < n
 ·rw [if_pos (.inr (.inr c5))] at hdef
  rw [hdef]
  (refine eK c_cents_Part (l_a rfl) fun K hK => ?_; (try simp (disch := first|omega|assumption|exact l_a rfl) only [go_sem, ↓wBk, simprocAttr, ir_cents_Part]))
  (try simp (disch := first|omega|assumption|exact l_a rfl) only [go_sem, ↓wBk, simprocAttr, c1, c2, c3, c4, c5])
  exact hK _ _ ⟨rfl, rfl⟩
 rw [if_neg (fun h => h.elim c3 (fun h => h.elim c4 c5))] at hdef
 rw [hdef]
 obtain ⟨x, rfl⟩ := l_u (show 0 ≤ a by omega)
 obtain ⟨y, rfl⟩ := l_u (show 0 ≤ n by omega)
 obtain ⟨z, rfl⟩ := l_u (show 0 ≤ of by omega)
 have hxy : x * y ≤ x * z := Nat.mul_le_mul_left _ (by omega)
 have hq : x * y / z ≤ x := Nat.div_le_of_le_mul (by rw [Nat.mul_comm z x]; exact hxy)
 have hhi : x * y / 18446744073709551616 < z := by
  rw [Nat.div_lt_iff_lt_mul (by decide)]
  have : x * z ≤ 1125899906842624 * z := Nat.mul_le_mul_right _ (by omega)
  omega
 have hdm : x * y / 18446744073709551616 * 18446744073709551616 + x * y % 18446744073709551616 = x * y := by omega
 (refine eK c_cents_Part (l_a rfl) fun K hK => ?_; (try simp (disch := first|omega|assumption|exact l_a rfl) only [go_sem, ↓wBk, simprocAttr, ir_cents_Part]))
 (try simp (disch := first|omega|assumption|exact l_a rfl) only [go_sem, ↓wBk, simprocAttr, c1, c2, c3, c4, c5])
 refine cI (Mul64_ok x y (by omega) (by omega) _) ?_
 rintro _ _ ⟨rfl, rfl⟩
 (try simp (disch := first|omega|assumption|exact l_a rfl) only [go_sem, ↓wBk, simprocAttr])
 refine cI (Div64_ok _ _ z hhi (by omega) (Nat.mod_lt _ (by decide)) _) ?_
 rintro _ _ ⟨rfl, rfl⟩
 rw [hdm]
 (try simp (disch := first|omega|assumption|exact l_a rfl) only [go_sem, ↓wBk, simprocAttr])
 refine hK _ _ ⟨?_, rfl⟩
 have e : (x : Int) * y / z = ((x * y / z : Nat) : Int) := by rw [Int.natCast_ediv, Int.natCast_mul]
 have hqx : ((x * y / z : Nat) : Int) ≤ x := Int.ofNat_le.2 hq
 have hq0 : (0 : Int) ≤ ((x * y / z : Nat) : Int) := Int.natCast_nonneg _
 rw [e]
 generalize ((x * y / z : Nat) : Int) = w at *
 rw [wrap_i64 (by omega) (by omega)]
theorem Points_ok (a k : Int) (ha : I64 a) (hk : I64 k) (h : Heap) : CallsH Tryz.prog 113 [.int .i64 a, .int .i64 k] h fun v h' => v = .tuple #[.int .i64 (partV a k 10000).1, .int .i64 (partV a k 10000).2] ∧ h' = h := by
 obtain ⟨hk1, hk2⟩ := id hk
 (refine eK c_cents_Points (l_a rfl) fun K hK => ?_; (try simp (disch := first|omega|assumption|exact l_a rfl) only [go_sem, ↓wBk, simprocAttr, ir_cents_Points]))
 refine cI (CPart_ok a k 10000 ha hk ⟨by decide, by decide⟩ _) ?_
 rintro _ _ ⟨rfl, rfl⟩
 (try simp (disch := first|omega|assumption|exact l_a rfl) only [go_sem, ↓wBk, simprocAttr])
 exact hK _ _ ⟨rfl, rfl⟩
end
section
set_option maxHeartbeats 4000000
def isR (n : Int) : Prop := 0 ≤ n ∧ n < 4
def Pol.feeR (p : Pol) (r : Int) : Int := if r = 0 then p.f0 else if r = 1 then p.f1 else if r = 2 then p.f2 else p.f3
def Pol.gsh (p : Pol) (g : Int) : Int := if g = 0 then p.s0 else if g = 1 then p.s1 else if g = 2 then p.s2 else p.s3
def Pol.gto (p : Pol) (g : Int) : Int := if g = 0 then p.t0 else if g = 1 then p.t1 else if g = 2 then p.t2 else p.t3
def wrt (p : Pol) (sh r g : Int) : Int := sh * p.gsh g / 10000 - sh * p.gsh g / 10000 * p.feeR r / 10000
theorem isR4 {n : Int} (h : isR n) : n = 0 ∨ n = 1 ∨ n = 2 ∨ n = 3 := by obtain ⟨h1, h2⟩ := h; omega
theorem fee_pts {p : Pol} (hp : p.right) (r : Int) : okPts (p.feeR r) := by
 obtain ⟨⟨h0, h1, h2, h3⟩, _⟩ := hp
 unfold Pol.feeR
 (repeat' split) <;> assumption
theorem gsh_pts {p : Pol} (hp : p.right) (g : Int) : okPts (p.gsh g) := by
 obtain ⟨_, ⟨⟨h0, _⟩, ⟨h1, _⟩, ⟨h2, _⟩, ⟨h3, _⟩⟩, _⟩ := hp
 unfold Pol.gsh
 (repeat' split) <;> assumption
theorem part_le {a n : Int} (ha : 0 ≤ a) (hn : okPts n) : 0 ≤ a * n / 10000 ∧ a * n / 10000 ≤ a := by
 obtain ⟨h1, h2⟩ := hn
 have e1 : 0 ≤ a * n := Int.mul_nonneg ha h1
 have e2 : a * n ≤ a * 10000 := Int.mul_le_mul_of_nonneg_left h2 ha
 omega
theorem partV_in {a n : Int} (ha : 0 ≤ a) (ha2 : a ≤ 1125899906842624) (hn : okPts n) : partV a n 10000 = (a * n / 10000, 0) := by
 obtain ⟨h1, h2⟩ := hn
 rw [partV, if_neg (by omega), if_neg (by omega)]
theorem rright_ok (p : Pol) (h : Heap) : CallsH Tryz.prog 111 [.agg p.enc.toArray] h fun v h' => v = .bool (dcd p.right) ∧ Fr h h' [] := by
 have S := St.nil h
 (refine eK c_rule_right (l_a rfl) fun K hK => ?_; (try simp (disch := first|omega|assumption|exact l_a rfl) only [go_sem, ↓wBk, simprocAttr, ir_rule_right]))
 (refine tA S ?_; clear S; intro b h S; (try simp only [sC, sN, l_h, l_i, Nat.zero_add, Nat.reduceAdd, l_j, l_k] at S); ((try clear F); have F := S.all; (try simp only [aC, aN, yC, and_true] at F)))
 (try simp (disch := first|omega|assumption|exact l_a rfl) only [go_sem, ↓wBk, simprocAttr, F, Pol.enc])
 (refine tA S ?_; clear S; intro g h S; (try simp only [sC, sN, l_h, l_i, Nat.zero_add, Nat.reduceAdd, l_j, l_k] at S); ((try clear F); have F := S.all; (try simp only [aC, aN, yC, and_true] at F)))
 have S := S.cellOwn (enc := Pol.enc) (sz := 16) (ys := [p]) Pol.enc_len rfl (by simp)
 clear F
 (try simp (disch := first|omega|assumption|exact l_a rfl) only [go_sem, ↓wBk, simprocAttr])
 refine cI (Right_ok (xs := [p]) (S.arr Pol.enc_len) rfl (by simp)) ?_
 rintro _ h' ⟨rfl, hf⟩
 (try simp (disch := first|omega|assumption|exact l_a rfl) only [go_sem, ↓wBk, simprocAttr])
 refine hK _ _ ⟨?_, (S.frame hf).fr⟩
 by_cases hr : p.right
 ·rw [dT hr, dT ⟨by simp, by simpa using hr⟩]
 ·rw [dF hr, dF fun h => hr (h.2 p (by simp))]
theorem ris_ok (n : Int) (h : Heap) : CallsH Tryz.prog 112 [.int .i64 n] h fun v h' => v = .bool (dcd (isR n)) ∧ h' = h := by
 by_cases h1 : 0 ≤ n
 ·by_cases h2 : n < 4
  ·(refine eK c_rule_is (l_a rfl) fun K hK => ?_; (try simp (disch := first|omega|assumption|exact l_a rfl) only [go_sem, ↓wBk, simprocAttr, ir_rule_is]))
   (try simp (disch := first|omega|assumption|exact l_a rfl) only [go_sem, ↓wBk, simprocAttr, h1, h2])
   exact hK _ _ ⟨by rw [dT ⟨h1, h2⟩], rfl⟩
  ·(refine eK c_rule_is (l_a rfl) fun K hK => ?_; (try simp (disch := first|omega|assumption|exact l_a rfl) only [go_sem, ↓wBk, simprocAttr, ir_rule_is]))
   (try simp (disch := first|omega|assumption|exact l_a rfl) only [go_sem, ↓wBk, simprocAttr, h1, h2])
   exact hK _ _ ⟨by rw [dF fun h => h2 h.2], rfl⟩
 ·(refine eK c_rule_is (l_a rfl) fun K hK => ?_; (try simp (disch := first|omega|assumption|exact l_a rfl) only [go_sem, ↓wBk, simprocAttr, ir_rule_is]))
  (try simp (disch := first|omega|assumption|exact l_a rfl) only [go_sem, ↓wBk, simprocAttr, h1])
  exact hK _ _ ⟨by rw [dF fun h => h1 h.1], rfl⟩
theorem Fee_ok (p : Pol) (sum r : Int) (hp : p.right) (hr : isR r) (h0 : 0 ≤ sum) (h1 : sum ≤ 1125899906842624) (h : Heap) : CallsH Tryz.prog 114 [.agg p.enc.toArray, .int .i64 sum, .int .i64 r] h fun v h' => v = .tuple #[.int .i64 (sum * p.feeR r / 10000), .int .i64 0] ∧ Fr h h' [] := by
 have hf := fee_pts hp r
 have hv := partV_in h0 h1 hf
 have S := St.nil h
 (refine eK c_rule_Fee (l_a rfl) fun K hK => ?_; (try simp (disch := first|omega|assumption|exact l_a rfl) only [go_sem, ↓wBk, simprocAttr, ir_rule_Fee]))
 (refine tA S ?_; clear S; intro b h S; (try simp only [sC, sN, l_h, l_i, Nat.zero_add, Nat.reduceAdd, l_j, l_k] at S); ((try clear F); have F := S.all; (try simp only [aC, aN, yC, and_true] at F)))
 (try simp (disch := first|omega|assumption|exact l_a rfl) only [go_sem, ↓wBk, simprocAttr, F, Pol.enc])
 refine cI (rright_ok p _) ?_
 rintro _ h ⟨rfl, f1⟩
 have S := S.frame f1
 rw [dT hp]
 (try simp (disch := first|omega|assumption|exact l_a rfl) only [go_sem, ↓wBk, simprocAttr])
 refine cI (ris_ok r _) ?_
 rintro _ _ ⟨rfl, rfl⟩
 rw [dT hr]
 ((try clear F); have F := S.all; (try simp only [aC, aN, yC, and_true] at F))
 rcases isR4 hr with rfl | rfl | rfl | rfl <;>
 ·(try simp (disch := first|omega|assumption|exact l_a rfl) only [go_sem, ↓wBk, simprocAttr, F, Pol.enc])
  refine cI (Points_ok _ _ ⟨by omega, by omega⟩ ⟨?_, ?_⟩ _) ?_
  ·have := hf.1; simp only [Pol.feeR] at this; simp at this; omega
  ·have := hf.2; simp only [Pol.feeR] at this; simp at this; omega
  rintro _ _ ⟨rfl, rfl⟩
  simp only [Pol.feeR] at hv ⊢
  simp at hv ⊢
  rw [hv]
  (try simp (disch := first|omega|assumption|exact l_a rfl) only [go_sem, ↓wBk, simprocAttr])
  exact hK _ _ ⟨rfl, S.fr⟩
theorem Worth_ok (p : Pol) (sh r g : Int) (hp : p.right) (hr : isR r) (hg : isR g) (h0 : 0 ≤ sh) (h1 : sh ≤ 1125899906842624) (h : Heap) : CallsH Tryz.prog 75 [.agg p.enc.toArray, .int .i64 sh, .int .i64 r, .int .i64 g] h fun v h' => v = .tuple #[.int .i64 (wrt p sh r g), .int .i64 0] ∧ Fr h h' [] := by
 have hf := gsh_pts hp g
 have hv := partV_in h0 h1 hf
 have hl := part_le h0 hf
 have hl2 := part_le hl.1 (fee_pts hp r)
 have S := St.nil h
 (refine eK c_rule_Worth (l_a rfl) fun K hK => ?_; (try simp (disch := first|omega|assumption|exact l_a rfl) only [go_sem, ↓wBk, simprocAttr, ir_rule_Worth]))
 (refine tA S ?_; clear S; intro b h S; (try simp only [sC, sN, l_h, l_i, Nat.zero_add, Nat.reduceAdd, l_j, l_k] at S); ((try clear F); have F := S.all; (try simp only [aC, aN, yC, and_true] at F)))
 (try simp (disch := first|omega|assumption|exact l_a rfl) only [go_sem, ↓wBk, simprocAttr, F, Pol.enc])
 refine cI (rright_ok p _) ?_
 rintro _ h ⟨rfl, f1⟩
 have S := S.frame f1
 rw [dT hp]
 (try simp (disch := first|omega|assumption|exact l_a rfl) only [go_sem, ↓wBk, simprocAttr])
 refine cI (ris_ok r _) ?_
 rintro _ _ ⟨rfl, rfl⟩
 rw [dT hr]
 (try simp (disch := first|omega|assumption|exact l_a rfl) only [go_sem, ↓wBk, simprocAttr])
 refine cI (ris_ok g _) ?_
 rintro _ _ ⟨rfl, rfl⟩
 rw [dT hg]
 have hgo : ∀ (x : Int) (h : Heap), x = p.gsh g → CallsH Tryz.prog 113 [.int .i64 sh, .int .i64 x] h fun v h' => v = .tuple #[.int .i64 (sh * p.gsh g / 10000), .int .i64 0] ∧ h' = h := fun x h e => by
  subst e
  have := Points_ok sh (p.gsh g) ⟨by omega, by omega⟩ ⟨by have := hf.1; omega, by have := hf.2; omega⟩ h
  rwa [hv] at this
 ((try clear F); have F := S.all; (try simp only [aC, aN, yC, and_true] at F))
 have fin : ∀ (x : Int), x = p.gsh g → callT Tryz.prog 113 [.int .i64 sh, .int .i64 x] h (fun v h' => True) ⟨⟩ ⟨⟩ → True := fun _ _ _ => trivial
 clear fin
 rcases isR4 hg with rfl | rfl | rfl | rfl <;>
 ·(try simp (disch := first|omega|assumption|exact l_a rfl) only [go_sem, ↓wBk, simprocAttr, F, Pol.enc])
  refine cI (hgo _ _ (by simp [Pol.gsh])) ?_
  rintro _ _ ⟨rfl, rfl⟩
  (try simp (disch := first|omega|assumption|exact l_a rfl) only [go_sem, ↓wBk, simprocAttr, F, Pol.enc])
  refine cI (Fee_ok p _ r hp hr hl.1 (by omega) _) ?_
  rintro _ h ⟨rfl, f2⟩
  (try simp (disch := first|omega|assumption|exact l_a rfl) only [go_sem, ↓wBk, simprocAttr])
  exact hK _ _ ⟨rfl, (S.frame f2).fr⟩
end
end Go.Proofs.YtijnkebgciaieaaGreat.MX
