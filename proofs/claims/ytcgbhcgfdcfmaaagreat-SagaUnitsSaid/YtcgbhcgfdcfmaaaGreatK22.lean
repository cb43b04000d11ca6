import Derived.Test.YtcgbhcgfdcfmaaaGreatK21
import Derived.Test.YtcgbhcgfdcfmaaaGreatK12
namespace Go.Proofs.YtcgbhcgfdcfmaaaGreat.MX
open Go Go.Proofs
set_option linter.unusedSimpArgs false
set_option linter.unusedVariables false
section
set_option maxHeartbeats 8000000
set_option maxRecDepth 20000
def oRow (o : Odr) : HP := ownA Lin.enc 4 93 (.slice o.A o.ls.length o.c) o.ls
theorem st_mem {h0 h : Heap} {L : List HP} {X : HP} (S : St h0 h L) (hx : X ∈ L) : ∃ M, St h0 h (X :: M) := by
 obtain ⟨a, b, rfl⟩ := List.append_of_mem hx
 exact ⟨_, S.perm List.perm_middle⟩
theorem rows_arr {h0 h : Heap} {L l : List HP} {os : List Odr} (S : St h0 h (L ++ (os.map oRow ++ l))) : ∀ o ∈ os, Arr Lin.enc 4 h o.A o.ls ∧ o.ls.length ≤ o.c ∧ o.c < 9223372036854775808 := fun o ho => by
 obtain ⟨M, S⟩ := st_mem S (X := oRow o) (List.mem_append_right _ (List.mem_append_left _ (l_ai ho)))
 obtain ⟨_, h1, h2⟩ := S.cap
 exact ⟨S.arr Lin.enc_len, h1, h2⟩
theorem okOrder_pu {k : Int} {x y : Odr} (h : x.pu = y.pu) : okOrder k x → okOrder k y := by
 obtain ⟨a1, A1, c1, l1, d1, t1, s1⟩ := x
 obtain ⟨a2, A2, c2, l2, d2, t2, s2⟩ := y
 simp only [Odr.pu, Prod.mk.injEq] at h
 obtain ⟨rfl, rfl, rfl, rfl, rfl⟩ := h
 exact id
theorem ordSum_pu : ∀ {xs ys : List Odr}, xs.map Odr.pu = ys.map Odr.pu → ordSum xs = ordSum ys
 | [], [], _ => rfl
 | x :: xs, y :: ys, h => by
  simp only [List.map_cons, List.cons.injEq] at h
  have h1 := ordSum_pu h.2
  have h2 : x.ls = y.ls := congrArg (fun z => z.2.2.2.2) h.1
  simp only [ordSum, List.map_cons, List.sum_cons, h2] at h1 ⊢
  rw [h1]
 | [], y :: ys, h => by simp at h
 | x :: xs, [], h => by simp at h
theorem okCfg_pu {C D : Cfg} (h : C.pu = D.pu) (hok : okCfg C) : okCfg D := by
 have h1 : C.ps = D.ps := congrArg (fun z => z.1) h
 have h2 : C.ss = D.ss := congrArg (fun z => z.2.1) h
 have h3 : C.os.map Odr.pu = D.os.map Odr.pu := congrArg (fun z => z.2.2) h
 have hl : C.os.length = D.os.length := by have := congrArg List.length h3; simpa using this
 obtain ⟨k0, k1, k2, k3, k4, k5⟩ := hok
 refine ⟨h1 ▸ k0, by omega, by rw [← h2]; exact k2, fun o ho => ?_, h2 ▸ k4, ?_⟩
 ·have : o.pu ∈ C.os.map Odr.pu := by rw [h3]; exact l_ai ho
  obtain ⟨x, hx, e⟩ := List.mem_map.1 this
  rw [← h1]
  exact okOrder_pu e (k3 x hx)
 ·have e1 : totOf C = ordSum C.os + supSum C.ss := rfl
  have e2 : totOf D = ordSum D.os + supSum D.ss := rfl
  rw [e2, ← ordSum_pu h3, ← h2, ← e1]
  exact k5
noncomputable def decO (b : List UInt8) : List POd × Q := pMany pOdr (vl 1 (bytesR (b, false)).2).toNat (stp 1 (bytesR (b, false)).2)
noncomputable def decS (b : List UInt8) : List Sup × Q := pMany pSup (vl 1 (decO b).2).toNat (stp 1 (decO b).2)
def Reads (b : List UInt8) (C : Cfg) : Prop := okCfg C ∧ encT C.ps = (bytesR (b, false)).1 ∧ C.os.map Odr.pu = (decO b).1 ∧ C.ss = (decS b).1 ∧ (decS b).2 = ([], false)
section
variable {h0 h : Heap} {l : List HP}
end
end
section
set_option maxHeartbeats 4000000
theorem stp_back {n : Nat} {q : Q} (h : (stp n q).2 = false) : q.2 = false ∧ n ≤ q.1.length ∧ q.1 = le n (vl n q) ++ (stp n q).1 := by
 obtain ⟨bs, bad⟩ := q
 have hx : rdX n bs bad = false := h
 unfold rdX at hx
 simp only [Bool.or_eq_false_iff, decide_eq_false_iff_not] at hx
 obtain ⟨rfl, hl⟩ := hx
 refine ⟨rfl, by simp only; omega, ?_⟩
 show bs = le n (rdV n bs false) ++ rdB n bs false
 rw [rdV, rdB, if_neg (by simp; omega), if_neg (by simp; omega), le_num_n _ n (by rw [l_ad]; omega), List.take_append_drop]
theorem vi_nn {q : Q} (h : 0 ≤ vi q) : vi q = vl 8 q := by
 have hv := rdV_nn 8 q.1 q.2
 have e : vl 8 q = rdV 8 q.1 q.2 := rfl
 rw [← e] at hv
 by_cases hb : vl 8 q < 9223372036854775808
 ·exact wrap_i64 (by omega) hb
 ·exfalso
  have h1 : vl 8 q < 18446744073709551616 := by simpa using hv.2
  have : IntKind.i64.wrap (vl 8 q) = vl 8 q - 18446744073709551616 := by
   generalize vl 8 q = x at *
   simp only [IntKind.wrap, IntKind.signed, IntKind.bits]
   simp
   omega
  unfold vi at h
  omega
def Back {α : Type} (p : Q → α × Q) (f : α → List UInt8) (ok : α → Prop) : Prop := ∀ q, (p q).2.2 = false → ok (p q).1 → q.2 = false ∧ q.1 = f (p q).1 ++ (p q).2.1
theorem many_back {α : Type} {p : Q → α × Q} {f : α → List UInt8} {ok : α → Prop} (hp : Back p f ok) : ∀ n q, (pMany p n q).2.2 = false → (∀ x ∈ (pMany p n q).1, ok x) → q.2 = false ∧ q.1 = (pMany p n q).1.flatMap f ++ (pMany p n q).2.1
 | 0, q, h, _ => ⟨h, by simp [pMany]⟩
 | n + 1, q, h, hok => by
  have hs : pMany p (n + 1) q = ((pMany p n q).1 ++ [(p (pMany p n q).2).1], (p (pMany p n q).2).2) := rfl
  rw [hs] at h hok ⊢
  obtain ⟨h1, h2⟩ := hp _ h (hok _ (by simp))
  obtain ⟨h3, h4⟩ := many_back hp n q h1 fun x hx => hok x (by simp [hx])
  refine ⟨h3, ?_⟩
  rw [h4, h2]
  simp
theorem lin_back (k : Int) : Back pLin linB (okLine k) := by
 intro q h hok
 obtain ⟨h1, _, e1⟩ := stp_back h
 obtain ⟨h2, _, e2⟩ := stp_back h1
 obtain ⟨h3, _, e3⟩ := stp_back h2
 obtain ⟨h4, _, e4⟩ := stp_back h3
 refine ⟨h4, ?_⟩
 have hv : vi (stp 1 (stp 2 q)) = vl 8 (stp 1 (stp 2 q)) := vi_nn hok.1.2.1.1
 show q.1 = (le 2 (vl 2 q) ++ (le 1 (vl 1 (stp 2 q)) ++ (le 8 (vi (stp 1 (stp 2 q))) ++ le 1 (vl 1 (stp 8 (stp 1 (stp 2 q))))))) ++ (stp 1 (stp 8 (stp 1 (stp 2 q)))).1
 rw [hv]
 conv => lhs; rw [e4, e3, e2, e1]
 simp only [l_q]
theorem sup_back : Back pSup supB okSup := by
 intro q h hok
 obtain ⟨h1, _, e1⟩ := stp_back h
 obtain ⟨h2, _, e2⟩ := stp_back h1
 obtain ⟨h3, _, e3⟩ := stp_back h2
 refine ⟨h3, ?_⟩
 have hv : vi (stp 2 q) = vl 8 (stp 2 q) := vi_nn hok.2.1.1
 show q.1 = (le 2 (vl 2 q) ++ (le 8 (vi (stp 2 q)) ++ le 1 (vl 1 (stp 8 (stp 2 q))))) ++ (stp 1 (stp 8 (stp 2 q))).1
 rw [hv]
 conv => lhs; rw [e3, e2, e1]
 simp only [l_q]
def odrBp (x : POd) : List UInt8 := le 4 x.1 ++ (le 8 x.2.1 ++ (le 8 x.2.2.1 ++ (le 8 x.2.2.2.1 ++ (le 1 x.2.2.2.2.length ++ x.2.2.2.2.flatMap linB))))
theorem odrBp_pu (o : Odr) : odrBp o.pu = odrB o := rfl
def okP (k : Int) (x : POd) : Prop := (0 ≤ x.1 ∧ x.1 ≤ 100000) ∧ (x.2.2.2.2.length ≤ 8) ∧ okPrice x.2.1 ∧ okPrice x.2.2.1 ∧ okPrice x.2.2.2.1 ∧ ∀ l ∈ x.2.2.2.2, okLine k l
theorem okP_of {k : Int} {o : Odr} (h : okOrder k o) : okP k o.pu := ⟨h.1.1, h.1.2.1.2, h.1.2.2.1, h.1.2.2.2.1, h.1.2.2.2.2, h.2.1⟩
theorem odr_back (k : Int) : Back pOdr odrBp (okP k) := by
 intro q h hok
 obtain ⟨_, _, ⟨p1, _⟩, ⟨p2, _⟩, ⟨p3, _⟩, hl⟩ := hok
 obtain ⟨h0, e0⟩ := many_back (lin_back k) _ _ h hl
 obtain ⟨h1, _, e1⟩ := stp_back h0
 obtain ⟨h2, _, e2⟩ := stp_back h1
 obtain ⟨h3, _, e3⟩ := stp_back h2
 obtain ⟨h4, _, e4⟩ := stp_back h3
 obtain ⟨h5, _, e5⟩ := stp_back h4
 refine ⟨h5, ?_⟩
 have v1 : vi (stp 4 q) = vl 8 (stp 4 q) := vi_nn p1
 have v2 : vi (stp 8 (stp 4 q)) = vl 8 (stp 8 (stp 4 q)) := vi_nn p2
 have v3 : vi (stp 8 (stp 8 (stp 4 q))) = vl 8 (stp 8 (stp 8 (stp 4 q))) := vi_nn p3
 have hn := vl1 (stp 8 (stp 8 (stp 8 (stp 4 q))))
 have hln : (((pMany pLin (vl 1 (stp 8 (stp 8 (stp 8 (stp 4 q))))).toNat (stp 1 (stp 8 (stp 8 (stp 8 (stp 4 q)))))).1.length : Nat) : Int) = vl 1 (stp 8 (stp 8 (stp 8 (stp 4 q)))) := by rw [pMany_len]; omega
 show q.1 = (le 4 (vl 4 q) ++ (le 8 (vi (stp 4 q)) ++ (le 8 (vi (stp 8 (stp 4 q))) ++ (le 8 (vi (stp 8 (stp 8 (stp 4 q)))) ++ (le 1 ((pMany pLin (vl 1 (stp 8 (stp 8 (stp 8 (stp 4 q))))).toNat (stp 1 (stp 8 (stp 8 (stp 8 (stp 4 q)))))).1.length : Nat) ++ (pMany pLin (vl 1 (stp 8 (stp 8 (stp 8 (stp 4 q))))).toNat (stp 1 (stp 8 (stp 8 (stp 8 (stp 4 q)))))).1.flatMap linB))))) ++ (pMany pLin (vl 1 (stp 8 (stp 8 (stp 8 (stp 4 q))))).toNat (stp 1 (stp 8 (stp 8 (stp 8 (stp 4 q)))))).2.1
 rw [hln, v1, v2, v3]
 conv => lhs; rw [e5, e4, e3, e2, e1, e0]
 simp only [l_q]
theorem flat_pu (os : List Odr) : (os.map Odr.pu).flatMap odrBp = os.flatMap odrB := by
 induction os with
 | nil => rfl
 | cons o os ih => rw [List.map_cons, List.flatMap_cons, List.flatMap_cons, ih, odrBp_pu]
theorem Reads.bytes {b : List UInt8} {C : Cfg} (h : Reads b C) : encC C = b := by
 obtain ⟨hok, h1, h2, h3, h4⟩ := h
 obtain ⟨k0, k1, k2, k3, k4, k5⟩ := hok
 have g1 := many_back sup_back _ (stp 1 (decO b).2) (show (decS b).2.2 = false by rw [h4]) (fun x hx => k4.1 x (by rw [h3]; exact hx))
 obtain ⟨g2, g3⟩ := g1
 obtain ⟨g4, _, g5⟩ := stp_back g2
 have g6 := many_back (odr_back C.ps.length) _ (stp 1 (bytesR (b, false)).2) g4 (fun x hx => by
  have hx : x ∈ (decO b).1 := hx
  rw [← h2] at hx
  obtain ⟨o, ho, rfl⟩ := List.mem_map.1 hx
  exact okP_of (k3 o ho))
 obtain ⟨g7, g8⟩ := g6
 obtain ⟨g9, _, g10⟩ := stp_back g7
 have hO : pMany pOdr (vl 1 (bytesR (b, false)).2).toNat (stp 1 (bytesR (b, false)).2) = decO b := rfl
 have hS : pMany pSup (vl 1 (decO b).2).toNat (stp 1 (decO b).2) = decS b := rfl
 rw [hS, h4, ← h3, l_am] at g3
 rw [hO, ← h2, flat_pu] at g8
 have n1 : vl 1 (bytesR (b, false)).2 = (C.os.length : Int) := by
  have := congrArg List.length h2
  rw [← hO, pMany_len, l_z] at this
  have := vl1 (bytesR (b, false)).2
  omega
 have n2 : vl 1 (decO b).2 = (C.ss.length : Int) := by
  have := congrArg List.length h3
  rw [← hS, pMany_len] at this
  have := vl1 (decO b).2
  omega
 rw [n1] at g10
 rw [n2] at g5
 have hb : b = le 2 (bytesR (b, false)).1.length ++ ((bytesR (b, false)).1 ++ (bytesR (b, false)).2.1) := by
  have hv := vl2 (b, false)
  by_cases hc : (stp 2 (b, false)).2 = true ∨ (stp 2 (b, false)).1.length < (vl 2 (b, false)).toNat
  ·have : bytesR (b, false) = ([], ([], true)) := by unfold bytesR; rw [if_pos hc]
   rw [this] at g9
   cases g9
  ·have hR : bytesR (b, false) = ((stp 2 (b, false)).1.take (vl 2 (b, false)).toNat, ((stp 2 (b, false)).1.drop (vl 2 (b, false)).toNat, false)) := by unfold bytesR; rw [if_neg hc]
   have hbf : (stp 2 (b, false)).2 = false := by cases h : (stp 2 (b, false)).2 with
    | false => rfl
    | true => exact (hc (.inl h)).elim
   obtain ⟨_, _, e⟩ := stp_back hbf
   have hln : ((stp 2 (b, false)).1.take (vl 2 (b, false)).toNat).length = (vl 2 (b, false)).toNat := by rw [l_ad]; omega
   rw [hR]
   simp only [hln, List.take_append_drop]
   rw [Int.toNat_of_nonneg hv.1]
   exact e
 rw [encC, h1]
 conv => rhs; rw [hb, g10, g8, g5, g3]
 simp only [l_q]
end
section
set_option maxHeartbeats 8000000
section
variable {h0 h : Heap} {l : List HP}
theorem CloneO_ok {A : Option Addr} {n c : Nat} {xs : List Odr} (S : St h0 h l) (ha : Arr Odr.enc 5 h A xs) (hn : n = xs.length) (hl : xs.length < 1000000000) :
  CallsH Tryz.prog 43 [.slice A n c] h fun v h' => St h0 h' (ownA Odr.enc 5 90 v xs :: l) :=
 (clone_ok (T := 90) (sz := 5) (bytes := 56) i43.2 Odr.enc_len (by omega) Odr.enc_plain rfl ha hn (arr_none ha) (by omega) (by omega)).mono fun v h' ⟨ho, hf, _⟩ => S.ownNew hf ho
theorem CloneL_ok {A : Option Addr} {n c : Nat} {xs : List Lin} (S : St h0 h l) (ha : Arr Lin.enc 4 h A xs) (hn : n = xs.length) (hl : xs.length < 1000000000) :
  CallsH Tryz.prog 44 [.slice A n c] h fun v h' => St h0 h' (ownA Lin.enc 4 93 v xs :: l) :=
 (clone_ok (T := 93) (sz := 4) (bytes := 32) i44.2 Lin.enc_len (by omega) Lin.enc_plain rfl ha hn (arr_none ha) (by omega) (by omega)).mono fun v h' ⟨ho, hf, _⟩ => S.ownNew hf ho
theorem CloneS_ok {A : Option Addr} {n c : Nat} {xs : List Sup} (S : St h0 h l) (ha : Arr Sup.enc 3 h A xs) (hn : n = xs.length) (hl : xs.length < 1000000000) :
  CallsH Tryz.prog 45 [.slice A n c] h fun v h' => St h0 h' (ownA Sup.enc 3 95 v xs :: l) :=
 (clone_ok (T := 95) (sz := 3) (bytes := 24) i45.2 Sup.enc_len (by omega) Sup.enc_plain rfl ha hn (arr_none ha) (by omega) (by omega)).mono fun v h' ⟨ho, hf, _⟩ => S.ownNew hf ho
theorem CloneP_ok {A : Option Addr} {n c : Nat} {xs : List Pol} (S : St h0 h l) (ha : Arr Pol.enc 16 h A xs) (hn : n = xs.length) (hl : xs.length < 100000) :
  CallsH Tryz.prog 46 [.slice A n c] h fun v h' => St h0 h' (ownA Pol.enc 16 105 v xs :: l) :=
 (clone_ok (T := 105) (sz := 16) i46.2 Pol.enc_len (by omega) Pol.enc_plain rfl ha hn (arr_none ha) (by omega) (by omega)).mono fun v h' ⟨ho, hf, _⟩ => S.ownNew hf ho
theorem OClone_ok (C : Cfg) (r : ∀ h', St h0 h' l → C.rd h') (l1 : C.os.length < 100000) (l2 : C.ss.length < 100000) (l3 : C.ps.length < 100000) (l4 : ∀ o ∈ C.os, o.ls.length < 100000) (S : St h0 h l) :
  CallsH Tryz.prog 28 [.agg C.enc.toArray] h fun v h' => ∃ D : Cfg, v = .agg D.enc.toArray ∧ D.wf ∧ D.pu = C.pu ∧ St h0 h' (ownA Odr.enc 5 90 (.slice D.A1 D.os.length D.c1) D.os :: ownA Sup.enc 3 95 (.slice D.A2 D.ss.length D.c2) D.ss :: ownA Pol.enc 16 105 (.slice D.A3 D.ps.length D.c3) D.ps :: (D.os.map oRow ++ l)) := by
 refine EN i28.eq_1 fun K hK => Wa ?_
 (revert S; (try clear F); refine AL fun g h S F => ?_)
 refine Wa ?_
 (revert S; (try clear F); refine AL fun p h S F => ?_)
 refine Wc F @Cfg.enc.eq_1 ?_
 refine cI (CloneO_ok S (r _ S.tl.tl).os rfl (by omega)) ?_
 clear S F
 intro v h S
 obtain ⟨A1, c1, rfl⟩ := S.sl
 refine Wa ?_
 refine tS S.p2 rfl rfl (l_a rfl) ?_
 clear S
 intro h S
 rw [Cfg.enc] at S
 replace S := S.nm
 ((try clear F); have F := S.fx)
 refine Wb F ?_
 refine lI (fun ρ h' => ρ 1 = .pointer (some ⟨g, 0, none⟩) ∧ ρ 2 = .pointer (some ⟨p, 0, none⟩) ∧ ρ 10 = .int .i64 C.os.length ∧ ∃ (i : Nat) (ys : List Odr), ρ 11 = .int .i64 i ∧ i ≤ C.os.length ∧ ys.length = i ∧ ys.map Odr.pu = (C.os.take i).map Odr.pu ∧
  St h0 h' (cellA g [.slice A1 C.os.length c1, .slice C.A2 C.ss.length C.c2, .slice C.A3 C.ps.length C.c3] 26 :: ownA Odr.enc 5 90 (.slice A1 C.os.length c1) (ys ++ C.os.drop i) :: cellA p [.slice none 0 0, .slice none 0 0, .slice none 0 0] 26 :: (ys.map oRow ++ l))) (fun ρ _ => C.os.length - (iv (ρ 11)).toNat) ?_ ?_
 ·refine Wa ?_
  exact ⟨0, [], rfl, by omega, rfl, rfl, S⟩
 clear S F
 rintro ρ h J hJ ⟨e1, e2, e10, i, ys, e11, hi, hyl, hyp, S⟩
 refine Wc e10 e11 ?_
 refine cD (fun hlt => ?_) (fun hlt => ?_)
 ·have hil : i < C.os.length := by omega
  have hmem := l_v hil
  obtain ⟨b, rfl⟩ := S.p1.ownAt (by rw [l_m, List.length_drop]; omega)
  have hwl : i < (ys ++ C.os.drop i).length := by rw [l_m, List.length_drop]; omega
  have hget : (ys ++ C.os.drop i)[i]'hwl = C.os[i] := by
   rw [List.getElem_append_right (by omega)]
   simp [hyl]
  have hel := own_part Odr.enc_len S.p1 (i := i) (j := 1) hwl (by omega)
  rw [hget] at hel
  have hg0 := st_rd1 (off := 0) S
  simp only [l_o] at hg0
  have hrl := (r _ S.tl.tl.tl.dropL).ls _ hmem
  have hl4 := l4 _ hmem
  have hset : ∀ y : Odr, (ys ++ C.os.drop i).set i y = (ys ++ [y]) ++ C.os.drop (i + 1) := fun y => by
   rw [List.set_append_right _ _ (by omega), hyl, Nat.sub_self, List.drop_eq_getElem_cons hil, l_h, l_q]
   rfl
  have htk : (C.os.take (i + 1)).map Odr.pu = (C.os.take i).map Odr.pu ++ [C.os[i].pu] := by rw [l_t hil, l_al]; rfl
  generalize C.os[i] = o at *
  simp only [Odr.enc, l_p, l_o] at hel
  have hI : (fun h' => rd1 h' (.pointer (some ⟨g, 0, none⟩)) = some (.slice (some ⟨b, 0, none⟩) C.os.length c1) ∧ rd1 h' (.pointer (some ⟨b, i * 5 + 1, none⟩)) = some (.slice o.A o.ls.length o.c)) h := ⟨hg0, hel⟩
  have rx : ∀ K t, readT (fun h' => rd1 h' (.pointer (some ⟨g, 0, none⟩)) = some (.slice (some ⟨b, 0, none⟩) C.os.length c1) ∧ rd1 h' (.pointer (some ⟨b, i * 5 + 1, none⟩)) = some (.slice o.A o.ls.length o.c)) (fun h' => rd1 h' (.pointer (some ⟨g, 0, none⟩))) K t = K (.slice (some ⟨b, 0, none⟩) C.os.length c1) := fun K t => rI (fun h' hh => hh.1) h hI
  have ry : ∀ K t, readT (fun h' => rd1 h' (.pointer (some ⟨g, 0, none⟩)) = some (.slice (some ⟨b, 0, none⟩) C.os.length c1) ∧ rd1 h' (.pointer (some ⟨b, i * 5 + 1, none⟩)) = some (.slice o.A o.ls.length o.c)) (fun h' => rd1 h' (.pointer (some ⟨b, i * 5 + 1, none⟩))) K t = K (.slice o.A o.ls.length o.c) := fun K t => rI (fun h' hh => hh.2) h hI
  refine Wa ?_
  refine dI (fun h' => rd1 h' (.pointer (some ⟨g, 0, none⟩)) = some (.slice (some ⟨b, 0, none⟩) C.os.length c1) ∧ rd1 h' (.pointer (some ⟨b, i * 5 + 1, none⟩)) = some (.slice o.A o.ls.length o.c)) hI ?_
  refine We e1 e11 rx ry ?_
  refine cI (CloneL_ok S hrl rfl (by omega)) ?_
  clear S rx ry hI hel hg0 hrl
  intro v h S
  obtain ⟨A', c', rfl⟩ := S.sl
  have hel := own_part Odr.enc_len S.p2 (i := i) (j := 1) hwl (by omega)
  rw [hget] at hel
  simp only [Odr.enc, l_p, l_o] at hel
  refine ⟨⟨st_rd1 (off := 0) S.p1, hel⟩, ?_⟩
  refine Wa ?_
  refine st_setPart Odr.enc_len (i := i) (j := 1) (x := { o with A := A', c := c' }) S.p2 hwl (by omega) (l_a rfl) rfl rfl (by rw [hget]; rfl) ?_
  clear S hel
  intro h S
  rw [hset] at S
  refine Wb e11 ?_
  refine hJ _ _ ?_ ?_
  ·refine Wd e1 e2 e10 ?_
   refine ⟨i + 1, ys ++ [{ o with A := A', c := c' }], rfl, by omega, by rw [l_m, hyl]; rfl, by rw [htk, l_al, hyp]; rfl, ?_⟩
   rw [l_al, l_q (ys.map oRow)]
   have S : St h0 h (_ :: _ :: _ :: oRow { o with A := A', c := c' } :: (ys.map oRow ++ l)) := S.p2.p2.p3.p3.p3
   exact S.perm (.cons _ (.cons _ (.cons _ List.perm_middle.symm)))
  ·refine Wb e11 ?_
   omega
 obtain rfl : i = C.os.length := by omega
 rw [l_aj] at hyp
 rw [List.drop_length, l_am] at S
 clear hJ
 have hg1 := st_rd1 (off := 1) S
 have hg2 := st_rd1 (off := 2) S
 simp only [l_p, l_o] at hg1 hg2
 have hrr := r _ S.tl.tl.tl.dropL
 have hI : (fun h' => rd1 h' (.pointer (some ⟨g, 1, none⟩)) = some (.slice C.A2 C.ss.length C.c2) ∧ rd1 h' (.pointer (some ⟨g, 2, none⟩)) = some (.slice C.A3 C.ps.length C.c3)) h := ⟨hg1, hg2⟩
 have rx : ∀ K t, readT (fun h' => rd1 h' (.pointer (some ⟨g, 1, none⟩)) = some (.slice C.A2 C.ss.length C.c2) ∧ rd1 h' (.pointer (some ⟨g, 2, none⟩)) = some (.slice C.A3 C.ps.length C.c3)) (fun h' => rd1 h' (.pointer (some ⟨g, 1, none⟩))) K t = K (.slice C.A2 C.ss.length C.c2) := fun K t => rI (fun h' hh => hh.1) h hI
 have ry : ∀ K t, readT (fun h' => rd1 h' (.pointer (some ⟨g, 1, none⟩)) = some (.slice C.A2 C.ss.length C.c2) ∧ rd1 h' (.pointer (some ⟨g, 2, none⟩)) = some (.slice C.A3 C.ps.length C.c3)) (fun h' => rd1 h' (.pointer (some ⟨g, 2, none⟩))) K t = K (.slice C.A3 C.ps.length C.c3) := fun K t => rI (fun h' hh => hh.2) h hI
 refine Wa ?_
 refine dI (fun h' => rd1 h' (.pointer (some ⟨g, 1, none⟩)) = some (.slice C.A2 C.ss.length C.c2) ∧ rd1 h' (.pointer (some ⟨g, 2, none⟩)) = some (.slice C.A3 C.ps.length C.c3)) hI ?_
 refine Wd e1 rx ry ?_
 refine cI (CloneS_ok S hrr.ss rfl (by omega)) ?_
 clear S rx ry hI hg1 hg2 hrr
 intro v h S
 obtain ⟨A2, c2, rfl⟩ := S.sl
 refine ⟨⟨st_rd1 (off := 1) S.p1, st_rd1 (off := 2) S.p1⟩, ?_⟩
 have hrr := r _ S.tl.tl.tl.tl.dropL
 refine Wb e1 ?_
 refine cI (CloneP_ok S hrr.ps rfl (by omega)) ?_
 clear S hrr
 intro v h S
 obtain ⟨A3, c3, rfl⟩ := S.sl
 refine Wa ?_
 refine tS S.p2 rfl rfl (l_a rfl) ?_
 clear S
 intro h S
 replace S := S.nm
 refine Wb e1 ?_
 refine tS S rfl rfl (l_a rfl) ?_
 clear S
 intro h S
 replace S := S.nm
 ((try clear F); have F := S.fx)
 refine Wd e1 F e2 ?_
 refine tS S.p4 rfl rfl (l_a rfl) ?_
 clear S F
 intro h S
 replace S := S.nm
 ((try clear F); have F := S.fx)
 refine Wc e2 F ?_
 obtain ⟨D, hD⟩ : ∃ D : Cfg, D = ⟨A1, c1, ys, A2, c2, C.ss, A3, c3, C.ps⟩ := ⟨_, rfl⟩
 refine hK _ _ ⟨D, ?_, ?_, ?_, ?_⟩
 ·rw [hD, Cfg.enc, hyl]
 ·have S := S.tl.tl
  have R := rows_arr (L := [_, _, _]) S
  obtain ⟨_, x1, x2⟩ := S.cap
  obtain ⟨_, y1, y2⟩ := S.p1.cap
  obtain ⟨_, z1, z2⟩ := S.p2.cap
  subst hD
  exact ⟨by simp only [hyl]; exact z1, z2, y1, y2, x1, x2, fun o ho => (R o ho).2⟩
 ·rw [hD]
  simp only [Cfg.pu, hyp]
 ·rw [hD]
  simp only [hyl]
  exact S.tl.tl.p1.p2
end
end
section
def OwnO {α : Type} (enc : α → List Value) (sz T : Nat) (h : Heap) (v : Value) (xs : List α) : Prop :=
 (v = .slice none 0 0 ∧ xs = []) ∨
 ∃ b cap pre cs post, v = .slice (some ⟨b, pre.length, none⟩) xs.length cap ∧ xs.length ≤ cap ∧ cap < 9223372036854775808 ∧ blk h b = some (pre ++ ((xs.flatMap enc ++ cs) ++ post), T, (0, 0)) ∧ (xs.flatMap enc ++ cs).length = cap * sz
section
variable {α : Type} {enc : α → List Value} {sz T : Nat} {h h' : Heap} {v : Value} {xs : List α}
theorem Own.toO {base : Nat} (ho : Own enc sz T base h v xs) : OwnO enc sz T h v xs := by
 rcases ho with ho | ⟨b, cap, cs, hv, _, h1, h2, h3, h4⟩
 ·exact .inl ho
 ·exact .inr ⟨b, cap, [], cs, [], hv, h1, h2, by simpa using h3, h4⟩
theorem OwnO.lt (ho : OwnO enc sz T h v xs) : ∀ b ∈ blkOf v, b < h.size := by
 rcases ho with ⟨rfl, _⟩ | ⟨b, cap, pre, cs, post, rfl, _, _, hb, _⟩
 ·intro b hb; cases hb
 ·intro b' hb'
  simp only [blkOf, l_aa] at hb'
  subst hb'
  exact blk_lt hb
theorem OwnO.keep (ho : OwnO enc sz T h v xs) (hk : ∀ b ∈ blkOf v, blk h' b = blk h b) : OwnO enc sz T h' v xs := by
 rcases ho with ho | ⟨b, cap, pre, cs, post, rfl, h1, h2, hb, h4⟩
 ·exact .inl ho
 ·exact .inr ⟨b, cap, pre, cs, post, rfl, h1, h2, by rw [hk b (by simp [blkOf])]; exact hb, h4⟩
theorem OwnO.slice (ho : OwnO enc sz T h v xs) : ∃ A c, v = .slice A xs.length c := by
 rcases ho with ⟨rfl, rfl⟩ | ⟨b, cap, pre, cs, post, rfl, _⟩
 ·exact ⟨_, _, rfl⟩
 ·exact ⟨_, _, rfl⟩
theorem OwnO.arr (hsz : ∀ x, (enc x).length = sz) {A : Option Addr} {n c : Nat} (ho : OwnO enc sz T h (.slice A n c) xs) : Arr enc sz h A xs ∧ n = xs.length ∧ n ≤ c ∧ c < 9223372036854775808 := by
 rcases ho with ⟨hv, rfl⟩ | ⟨b, cap, pre, cs, post, hv, h1, h2, hb, h4⟩
 ·injection hv with e1 e2 e3
  subst e1 e2 e3
  exact ⟨fun i hi => by simp at hi, rfl, Nat.le_refl _, by decide⟩
 ·injection hv with e1 e2 e3
  subst e1 e2 e3
  refine ⟨fun i hi => ⟨b, pre.length, rfl, ?_⟩, rfl, h1, h2⟩
  have hfl := fL hsz xs
  have hm : i * sz + sz ≤ xs.length * sz := by
   have := Nat.mul_le_mul_right sz (show i + 1 ≤ xs.length from hi)
   rwa [Nat.succ_mul] at this
  rw [rdN_blk hb (by simp only [l_m]; omega)]
  congr 1
  rw [l_q (xs.flatMap enc) cs post, List.drop_append, List.drop_of_length_le (by omega), l_k, Nat.add_sub_cancel_left]
  exact flat_get hsz xs (cs ++ post) i hi
def offA (enc : α → List Value) (sz T : Nat) (v : Value) (xs : List α) : HP where
 P h B := B = blkOf v ∧ OwnO enc sz T h v xs
 loc := fun ⟨e, ho⟩ hk => ⟨e, ho.keep fun b hb => by simp only [blk, hk b (e ▸ hb)]⟩
 lt := fun ⟨e, ho⟩ b hm => ho.lt b (e ▸ hm)
variable {h0 : Heap} {l : List HP} {v' : Value} {xs' : List α}
theorem St.off (S : St h0 h (offA enc sz T v xs :: l)) : OwnO enc sz T h v xs := by
 obtain ⟨B, hp, _⟩ := S.hd
 exact hp.2
theorem St.offSl (S : St h0 h (offA enc sz T v xs :: l)) : ∃ A c, v = .slice A xs.length c := S.off.slice
theorem St.offArr {A : Option Addr} {n c : Nat} (S : St h0 h (offA enc sz T (.slice A n c) xs :: l)) (hsz : ∀ x, (enc x).length = sz) : Arr enc sz h A xs := (S.off.arr hsz).1
theorem St.offUp (S : St h0 h (offA enc sz T v xs :: l)) (hf : Fr h h' (blkOf v)) (ho : OwnO enc sz T h' v' xs') (hb : ∀ b ∈ blkOf v', b ∈ blkOf v ∨ h.size ≤ b) : St h0 h' (offA enc sz T v' xs' :: l) := by
 obtain ⟨B, hp, _, hk⟩ := S.hd
 obtain ⟨rfl, _⟩ := hp
 exact hk _ _ _ hf ⟨rfl, ho⟩ hb
theorem St.toOff (S : St h0 h (ownA enc sz T v xs :: l)) : St h0 h (offA enc sz T v xs :: l) := by
 obtain ⟨B, hp, _, hk⟩ := S.hd
 obtain ⟨rfl, ho⟩ := hp
 exact hk h _ (blkOf v) (Fr.refl _ _) ⟨rfl, ho.toO⟩ (fun b hb => .inl hb)
theorem St.nilO (S : St h0 h l) : St h0 h (offA enc sz T (.slice none 0 0) [] :: l) := S.nilS.toOff
theorem splice_mid (pre X post vs : List Value) {off k : Nat} (ho : off = pre.length + k) (hk : k + vs.length ≤ X.length) : splice (pre ++ (X ++ post)) off vs = pre ++ (splice X k vs ++ post) := by
 have e1 : pre ++ (X ++ post) = (pre ++ X.take k) ++ (X.drop k ++ post) := by
  conv => lhs; rw [← List.take_append_drop k X]
  simp only [l_q]
 have hl : (X.take k).length = k := by rw [l_ad]; omega
 have e2 : splice X k vs = X.take k ++ vs ++ (X.drop k).drop vs.length := by
  conv => lhs; rw [← List.take_append_drop k X]
  exact splice_append _ _ [] k hl.symm vs (by rw [List.length_drop]; omega)
 rw [e1, splice_append _ _ [] off (by rw [l_m, hl]; exact ho) vs (by rw [l_m, List.length_drop]; omega), List.drop_append_of_le_length (by rw [List.length_drop]; omega), e2]
 simp only [l_q]
theorem arr_dropG {b off : Nat} (ha : Arr enc sz h (some ⟨b, off, none⟩) xs) (n : Nat) : Arr enc sz h (some ⟨b, off + n * sz, none⟩) (xs.drop n) := by
 intro i hi
 rw [List.length_drop] at hi
 obtain ⟨b', off', e, hr⟩ := ha (n + i) (by omega)
 cases e
 refine ⟨b, _, rfl, ?_⟩
 rw [List.getElem_drop]
 rw [show off + n * sz + i * sz = off + (n + i) * sz by rw [Nat.add_mul]; omega]
 exact hr
theorem arr_takeG {A : Option Addr} (ha : Arr enc sz h A xs) (n : Nat) : Arr enc sz h A (xs.take n) := by
 intro i hi
 obtain ⟨b, off, hA, hr⟩ := ha i (by simp at hi; omega)
 exact ⟨b, off, hA, by rw [hr, List.getElem_take]⟩
theorem OwnO.pop (hsz : ∀ x, (enc x).length = sz) {x : α} {A : Option Addr} {n c : Nat} (ho : OwnO enc sz T h (.slice A n c) (x :: xs)) :
  ∃ A' c', cutV A sz 1 n c c = some (.slice A' xs.length c') ∧ OwnO enc sz T h (.slice A' xs.length c') xs ∧ blkOf (.slice A' xs.length c') = blkOf (.slice A n c) := by
 rcases ho with ⟨_, hv⟩ | ⟨b, cap, pre, cs, post, hv, h1, h2, hb, h4⟩
 ·cases hv
 injection hv with e1 e2 e3
 subst e1 e2 e3
 simp only [l_f] at h1 ⊢
 unfold cutV
 rw [if_pos ⟨by omega, by omega, by omega, by omega⟩]
 have hl : (((xs.length + 1 : Nat) : Int) - 1).toNat = xs.length := by omega
 rw [List.flatMap_cons, l_q, l_q, ← l_q pre] at hb
 rw [List.flatMap_cons, l_q, l_m, hsz] at h4
 by_cases e : (c : Int) = 1
 ·rw [if_pos e, hl]
  obtain rfl : c = 1 := by omega
  have hx0 : xs = [] := List.eq_nil_of_length_eq_zero (by omega)
  subst hx0
  refine ⟨_, 0, rfl, .inr ⟨b, 0, pre, [], enc x ++ (([] : List α).flatMap enc ++ (cs ++ post)), rfl, Nat.le_refl _, by decide, ?_, by simp⟩, rfl⟩
  rw [hb]
  simp
 ·rw [if_neg e, hl, Option.map_some, add_none, show ((1 : Int).toNat * sz) = sz by simp]
  refine ⟨_, c - 1, by rw [show ((c : Int) - 1).toNat = c - 1 by omega], .inr ⟨b, c - 1, pre ++ enc x, cs, post, ?_, by omega, by omega, ?_, ?_⟩, rfl⟩
  ·rw [l_m, hsz]
  ·rw [hb, l_q (xs.flatMap enc)]
  ·rw [Nat.sub_mul]
   omega
end
end
end Go.Proofs.YtcgbhcgfdcfmaaaGreat.MX
