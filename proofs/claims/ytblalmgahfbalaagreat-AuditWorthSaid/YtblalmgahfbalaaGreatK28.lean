/- Texts in one file: Od20, MXW, MXX, Ti1, Ti2, Ti3, Ti4, Ti5, Sg1. -/
import Derived.Test.YtblalmgahfbalaaGreatK27
import Derived.Test.YtblalmgahfbalaaGreatK09
import Derived.Lib.Overlaps
import Derived.Test.YtblalmgahfbalaaGreatK10
import Derived.Test.YtblalmgahfbalaaGreatIR
import Derived.Test.YtblalmgahfbalaaGreatK26
import Derived.Test.YtblalmgahfbalaaGreatK24
import Derived.Test.YtblalmgahfbalaaGreatK11

/- Orders: a config's clone. -/
namespace Go.Proofs.YtblalmgahfbalaaGreat.MX
open Go Go.Proofs
set_option linter.unusedSimpArgs false
set_option linter.unusedVariables false
set_option maxHeartbeats 8000000
section
variable {h0 h : Heap} {l : List HP}
theorem CloneO_ok {A : Option Addr} {n c : Nat} {xs : List Odr} (S : St h0 h l) (ha : Arr Odr.enc 5 h A xs) (hn : n = xs.length) (hl : xs.length < 1000000000) :
    CallsH Tryz.prog 53 [.slice A n c] h fun v h' => St h0 h' (ownA Odr.enc 5 66 v xs :: l) :=
  (clone_ok (T := 66) (sz := 5) (bytes := 56) c_slices_Clone_api_Order_api_Order Odr.enc_len (by omega) Odr.enc_plain rfl ha hn (arr_none ha) (by omega) (by omega)).mono fun v h' ⟨ho, hf, _⟩ => S.ownNew hf ho
theorem CloneL_ok {A : Option Addr} {n c : Nat} {xs : List Lin} (S : St h0 h l) (ha : Arr Lin.enc 4 h A xs) (hn : n = xs.length) (hl : xs.length < 1000000000) :
    CallsH Tryz.prog 54 [.slice A n c] h fun v h' => St h0 h' (ownA Lin.enc 4 69 v xs :: l) :=
  (clone_ok (T := 69) (sz := 4) (bytes := 32) c_slices_Clone_api_Line_api_Line Lin.enc_len (by omega) Lin.enc_plain rfl ha hn (arr_none ha) (by omega) (by omega)).mono fun v h' ⟨ho, hf, _⟩ => S.ownNew hf ho
theorem CloneS_ok {A : Option Addr} {n c : Nat} {xs : List Sup} (S : St h0 h l) (ha : Arr Sup.enc 3 h A xs) (hn : n = xs.length) (hl : xs.length < 1000000000) :
    CallsH Tryz.prog 55 [.slice A n c] h fun v h' => St h0 h' (ownA Sup.enc 3 71 v xs :: l) :=
  (clone_ok (T := 71) (sz := 3) (bytes := 24) c_slices_Clone_api_Supply_api_Supply Sup.enc_len (by omega) Sup.enc_plain rfl ha hn (arr_none ha) (by omega) (by omega)).mono fun v h' ⟨ho, hf, _⟩ => S.ownNew hf ho
theorem CloneP_ok {A : Option Addr} {n c : Nat} {xs : List Pol} (S : St h0 h l) (ha : Arr Pol.enc 16 h A xs) (hn : n = xs.length) (hl : xs.length < 100000) :
    CallsH Tryz.prog 56 [.slice A n c] h fun v h' => St h0 h' (ownA Pol.enc 16 48 v xs :: l) :=
  (clone_ok (T := 48) (sz := 16) c_slices_Clone_api_Policy_api_Policy Pol.enc_len (by omega) Pol.enc_plain rfl ha hn (arr_none ha) (by omega) (by omega)).mono fun v h' ⟨ho, hf, _⟩ => S.ownNew hf ho
theorem OClone_ok (C : Cfg) (r : ∀ h', St h0 h' l → C.rd h') (l1 : C.os.length < 100000) (l2 : C.ss.length < 100000) (l3 : C.ps.length < 100000) (l4 : ∀ o ∈ C.os, o.ls.length < 100000) (S : St h0 h l) :
    CallsH Tryz.prog 29 [.agg C.enc.toArray] h fun v h' => ∃ D : Cfg, v = .agg D.enc.toArray ∧ D.wf ∧ D.pu = C.pu ∧ St h0 h' (ownA Odr.enc 5 66 (.slice D.A1 D.os.length D.c1) D.os :: ownA Sup.enc 3 71 (.slice D.A2 D.ss.length D.c2) D.ss :: ownA Pol.enc 16 48 (.slice D.A3 D.ps.length D.c3) D.ps :: (D.os.map oRow ++ l)) := by
  (refine enterK c_order_Clone (Nat.le_of_ble_eq_true rfl) fun K hK => ?_; (try simp (maxSteps := 1000000) (disch := first | omega | assumption | exact Nat.le_of_ble_eq_true rfl) only [go_sem, ↓mwp_block, simprocAttr, ir_order_Clone]))
  (refine st_alloc S ?_; clear S; intro g h S; (try simp only [splice_cons, splice_nil, List.set_cons_zero, List.set_cons_succ, Nat.zero_add, Nat.reduceAdd, List.cons_append, List.nil_append] at S); ((try clear F); have F := S.all; (try simp only [all_cons, all_nil, says_cell, and_true] at F)))
  (try simp (maxSteps := 1000000) (disch := first | omega | assumption | exact Nat.le_of_ble_eq_true rfl) only [go_sem, ↓mwp_block, simprocAttr])
  (refine st_alloc S ?_; clear S; intro p h S; (try simp only [splice_cons, splice_nil, List.set_cons_zero, List.set_cons_succ, Nat.zero_add, Nat.reduceAdd, List.cons_append, List.nil_append] at S); ((try clear F); have F := S.all; (try simp only [all_cons, all_nil, says_cell, and_true] at F)))
  (try simp (maxSteps := 1000000) (disch := first | omega | assumption | exact Nat.le_of_ble_eq_true rfl) only [go_sem, ↓mwp_block, simprocAttr, F, Cfg.enc])
  refine call_intro (CloneO_ok S (r _ S.tl.tl).os rfl (by omega)) ?_
  clear S F
  intro v h S
  obtain ⟨A1, c1, rfl⟩ := S.sl
  (try simp (maxSteps := 1000000) (disch := first | omega | assumption | exact Nat.le_of_ble_eq_true rfl) only [go_sem, ↓mwp_block, simprocAttr])
  refine st_store S.p2 rfl rfl (Nat.le_of_ble_eq_true rfl) ?_
  clear S
  intro h S
  rw [Cfg.enc] at S
  (try simp only [splice_cons, splice_nil, List.set_cons_zero, List.set_cons_succ, Nat.zero_add, Nat.reduceAdd, List.cons_append, List.nil_append] at S)
  ((try clear F); have F := S.all; (try simp only [all_cons, all_nil, says_cell, and_true] at F))
  (try simp (maxSteps := 1000000) (disch := first | omega | assumption | exact Nat.le_of_ble_eq_true rfl) only [go_sem, ↓mwp_block, simprocAttr, F])
  refine loop_intro (fun ρ h' => ρ 1 = .pointer (some ⟨g, 0, none⟩) ∧ ρ 2 = .pointer (some ⟨p, 0, none⟩) ∧ ρ 10 = .int .i64 C.os.length ∧ ∃ (i : Nat) (ys : List Odr), ρ 11 = .int .i64 i ∧ i ≤ C.os.length ∧ ys.length = i ∧ ys.map Odr.pu = (C.os.take i).map Odr.pu ∧
    St h0 h' (cellA g [.slice A1 C.os.length c1, .slice C.A2 C.ss.length C.c2, .slice C.A3 C.ps.length C.c3] 26 :: ownA Odr.enc 5 66 (.slice A1 C.os.length c1) (ys ++ C.os.drop i) :: cellA p [.slice none 0 0, .slice none 0 0, .slice none 0 0] 26 :: (ys.map oRow ++ l))) (fun ρ _ => C.os.length - (iv (ρ 11)).toNat) ?_ ?_
  · (try simp (maxSteps := 1000000) (disch := first | omega | assumption | exact Nat.le_of_ble_eq_true rfl) only [go_sem, ↓mwp_block, simprocAttr])
    exact ⟨0, [], rfl, by omega, rfl, rfl, S⟩
  clear S F
  rintro ρ h J hJ ⟨e1, e2, e10, i, ys, e11, hi, hyl, hyp, S⟩
  (try simp (maxSteps := 1000000) (disch := first | omega | assumption | exact Nat.le_of_ble_eq_true rfl) only [go_sem, ↓mwp_block, simprocAttr, e10, e11])
  refine cond_dec (fun hlt => ?_) (fun hlt => ?_)
  · have hil : i < C.os.length := by omega
    have hmem := List.getElem_mem hil
    obtain ⟨b, rfl⟩ := S.p1.ownAt (by rw [List.length_append, List.length_drop]; omega)
    have hwl : i < (ys ++ C.os.drop i).length := by rw [List.length_append, List.length_drop]; omega
    have hget : (ys ++ C.os.drop i)[i]'hwl = C.os[i] := by
      rw [List.getElem_append_right (by omega)]
      simp [hyl]
    have hel := own_part Odr.enc_len S.p1 (i := i) (j := 1) hwl (by omega)
    rw [hget] at hel
    have hg0 := st_rd1 (off := 0) S
    simp only [List.getElem?_cons_zero] at hg0
    have hrl := (r _ S.tl.tl.tl.dropL).ls _ hmem
    have hl4 := l4 _ hmem
    have hset : ∀ y : Odr, (ys ++ C.os.drop i).set i y = (ys ++ [y]) ++ C.os.drop (i + 1) := fun y => by
      rw [List.set_append_right _ _ (by omega), hyl, Nat.sub_self, List.drop_eq_getElem_cons hil, List.set_cons_zero, List.append_assoc]
      rfl
    have htk : (C.os.take (i + 1)).map Odr.pu = (C.os.take i).map Odr.pu ++ [C.os[i].pu] := by rw [List.take_succ_eq_append_getElem hil, List.map_append]; rfl
    generalize C.os[i] = o at *
    simp only [Odr.enc, List.getElem?_cons_succ, List.getElem?_cons_zero] at hel
    have hI : (fun h' => rd1 h' (.pointer (some ⟨g, 0, none⟩)) = some (.slice (some ⟨b, 0, none⟩) C.os.length c1) ∧ rd1 h' (.pointer (some ⟨b, i * 5 + 1, none⟩)) = some (.slice o.A o.ls.length o.c)) h := ⟨hg0, hel⟩
    have rx : ∀ K t, readT (fun h' => rd1 h' (.pointer (some ⟨g, 0, none⟩)) = some (.slice (some ⟨b, 0, none⟩) C.os.length c1) ∧ rd1 h' (.pointer (some ⟨b, i * 5 + 1, none⟩)) = some (.slice o.A o.ls.length o.c)) (fun h' => rd1 h' (.pointer (some ⟨g, 0, none⟩))) K t = K (.slice (some ⟨b, 0, none⟩) C.os.length c1) := fun K t => readT_I (fun h' hh => hh.1) h hI
    have ry : ∀ K t, readT (fun h' => rd1 h' (.pointer (some ⟨g, 0, none⟩)) = some (.slice (some ⟨b, 0, none⟩) C.os.length c1) ∧ rd1 h' (.pointer (some ⟨b, i * 5 + 1, none⟩)) = some (.slice o.A o.ls.length o.c)) (fun h' => rd1 h' (.pointer (some ⟨b, i * 5 + 1, none⟩))) K t = K (.slice o.A o.ls.length o.c) := fun K t => readT_I (fun h' hh => hh.2) h hI
    (try simp (maxSteps := 1000000) (disch := first | omega | assumption | exact Nat.le_of_ble_eq_true rfl) only [go_sem, ↓mwp_block, simprocAttr])
    refine draw_inv (fun h' => rd1 h' (.pointer (some ⟨g, 0, none⟩)) = some (.slice (some ⟨b, 0, none⟩) C.os.length c1) ∧ rd1 h' (.pointer (some ⟨b, i * 5 + 1, none⟩)) = some (.slice o.A o.ls.length o.c)) hI ?_
    (try simp (maxSteps := 1000000) (disch := first | omega | assumption | exact Nat.le_of_ble_eq_true rfl) only [go_sem, ↓mwp_block, simprocAttr, e1, e11, rx, ry])
    refine call_intro (CloneL_ok S hrl rfl (by omega)) ?_
    clear S rx ry hI hel hg0 hrl
    intro v h S
    obtain ⟨A', c', rfl⟩ := S.sl
    have hel := own_part Odr.enc_len S.p2 (i := i) (j := 1) hwl (by omega)
    rw [hget] at hel
    simp only [Odr.enc, List.getElem?_cons_succ, List.getElem?_cons_zero] at hel
    refine ⟨⟨st_rd1 (off := 0) S.p1, hel⟩, ?_⟩
    (try simp (maxSteps := 1000000) (disch := first | omega | assumption | exact Nat.le_of_ble_eq_true rfl) only [go_sem, ↓mwp_block, simprocAttr])
    refine st_setPart Odr.enc_len (i := i) (j := 1) (x := { o with A := A', c := c' }) S.p2 hwl (by omega) (Nat.le_of_ble_eq_true rfl) rfl rfl (by rw [hget]; rfl) ?_
    clear S hel
    intro h S
    rw [hset] at S
    (try simp (maxSteps := 1000000) (disch := first | omega | assumption | exact Nat.le_of_ble_eq_true rfl) only [go_sem, ↓mwp_block, simprocAttr, e11])
    refine hJ _ _ ?_ ?_
    · (try simp (maxSteps := 1000000) (disch := first | omega | assumption | exact Nat.le_of_ble_eq_true rfl) only [go_sem, ↓mwp_block, simprocAttr, e1, e2, e10])
      refine ⟨i + 1, ys ++ [{ o with A := A', c := c' }], rfl, by omega, by rw [List.length_append, hyl]; rfl, by rw [htk, List.map_append, hyp]; rfl, ?_⟩
      rw [List.map_append, List.append_assoc (ys.map oRow)]
      have S : St h0 h (_ :: _ :: _ :: oRow { o with A := A', c := c' } :: (ys.map oRow ++ l)) := S.p2.p2.p3.p3.p3
      exact S.perm (.cons _ (.cons _ (.cons _ List.perm_middle.symm)))
    · (try simp (maxSteps := 1000000) (disch := first | omega | assumption | exact Nat.le_of_ble_eq_true rfl) only [go_sem, ↓mwp_block, simprocAttr, e11])
      omega
  obtain rfl : i = C.os.length := by omega
  rw [List.take_length] at hyp
  rw [List.drop_length, List.append_nil] at S
  clear hJ
  have hg1 := st_rd1 (off := 1) S
  have hg2 := st_rd1 (off := 2) S
  simp only [List.getElem?_cons_succ, List.getElem?_cons_zero] at hg1 hg2
  have hrr := r _ S.tl.tl.tl.dropL
  have hI : (fun h' => rd1 h' (.pointer (some ⟨g, 1, none⟩)) = some (.slice C.A2 C.ss.length C.c2) ∧ rd1 h' (.pointer (some ⟨g, 2, none⟩)) = some (.slice C.A3 C.ps.length C.c3)) h := ⟨hg1, hg2⟩
  have rx : ∀ K t, readT (fun h' => rd1 h' (.pointer (some ⟨g, 1, none⟩)) = some (.slice C.A2 C.ss.length C.c2) ∧ rd1 h' (.pointer (some ⟨g, 2, none⟩)) = some (.slice C.A3 C.ps.length C.c3)) (fun h' => rd1 h' (.pointer (some ⟨g, 1, none⟩))) K t = K (.slice C.A2 C.ss.length C.c2) := fun K t => readT_I (fun h' hh => hh.1) h hI
  have ry : ∀ K t, readT (fun h' => rd1 h' (.pointer (some ⟨g, 1, none⟩)) = some (.slice C.A2 C.ss.length C.c2) ∧ rd1 h' (.pointer (some ⟨g, 2, none⟩)) = some (.slice C.A3 C.ps.length C.c3)) (fun h' => rd1 h' (.pointer (some ⟨g, 2, none⟩))) K t = K (.slice C.A3 C.ps.length C.c3) := fun K t => readT_I (fun h' hh => hh.2) h hI
  (try simp (maxSteps := 1000000) (disch := first | omega | assumption | exact Nat.le_of_ble_eq_true rfl) only [go_sem, ↓mwp_block, simprocAttr])
  refine draw_inv (fun h' => rd1 h' (.pointer (some ⟨g, 1, none⟩)) = some (.slice C.A2 C.ss.length C.c2) ∧ rd1 h' (.pointer (some ⟨g, 2, none⟩)) = some (.slice C.A3 C.ps.length C.c3)) hI ?_
  (try simp (maxSteps := 1000000) (disch := first | omega | assumption | exact Nat.le_of_ble_eq_true rfl) only [go_sem, ↓mwp_block, simprocAttr, e1, rx, ry])
  refine call_intro (CloneS_ok S hrr.ss rfl (by omega)) ?_
  clear S rx ry hI hg1 hg2 hrr
  intro v h S
  obtain ⟨A2, c2, rfl⟩ := S.sl
  refine ⟨⟨st_rd1 (off := 1) S.p1, st_rd1 (off := 2) S.p1⟩, ?_⟩
  have hrr := r _ S.tl.tl.tl.tl.dropL
  (try simp (maxSteps := 1000000) (disch := first | omega | assumption | exact Nat.le_of_ble_eq_true rfl) only [go_sem, ↓mwp_block, simprocAttr, e1])
  refine call_intro (CloneP_ok S hrr.ps rfl (by omega)) ?_
  clear S hrr
  intro v h S
  obtain ⟨A3, c3, rfl⟩ := S.sl
  (try simp (maxSteps := 1000000) (disch := first | omega | assumption | exact Nat.le_of_ble_eq_true rfl) only [go_sem, ↓mwp_block, simprocAttr])
  refine st_store S.p2 rfl rfl (Nat.le_of_ble_eq_true rfl) ?_
  clear S
  intro h S
  (try simp only [splice_cons, splice_nil, List.set_cons_zero, List.set_cons_succ, Nat.zero_add, Nat.reduceAdd, List.cons_append, List.nil_append] at S)
  (try simp (maxSteps := 1000000) (disch := first | omega | assumption | exact Nat.le_of_ble_eq_true rfl) only [go_sem, ↓mwp_block, simprocAttr, e1])
  refine st_store S rfl rfl (Nat.le_of_ble_eq_true rfl) ?_
  clear S
  intro h S
  (try simp only [splice_cons, splice_nil, List.set_cons_zero, List.set_cons_succ, Nat.zero_add, Nat.reduceAdd, List.cons_append, List.nil_append] at S)
  ((try clear F); have F := S.all; (try simp only [all_cons, all_nil, says_cell, and_true] at F))
  (try simp (maxSteps := 1000000) (disch := first | omega | assumption | exact Nat.le_of_ble_eq_true rfl) only [go_sem, ↓mwp_block, simprocAttr, e1, F, e2])
  refine st_store S.p4 rfl rfl (Nat.le_of_ble_eq_true rfl) ?_
  clear S F
  intro h S
  (try simp only [splice_cons, splice_nil, List.set_cons_zero, List.set_cons_succ, Nat.zero_add, Nat.reduceAdd, List.cons_append, List.nil_append] at S)
  ((try clear F); have F := S.all; (try simp only [all_cons, all_nil, says_cell, and_true] at F))
  (try simp (maxSteps := 1000000) (disch := first | omega | assumption | exact Nat.le_of_ble_eq_true rfl) only [go_sem, ↓mwp_block, simprocAttr, e2, F])
  obtain ⟨D, hD⟩ : ∃ D : Cfg, D = ⟨A1, c1, ys, A2, c2, C.ss, A3, c3, C.ps⟩ := ⟨_, rfl⟩
  refine hK _ _ ⟨D, ?_, ?_, ?_, ?_⟩
  · rw [hD, Cfg.enc, hyl]
  · have S := S.tl.tl
    have R := rows_arr (L := [_, _, _]) S
    obtain ⟨_, x1, x2⟩ := S.cap
    obtain ⟨_, y1, y2⟩ := S.p1.cap
    obtain ⟨_, z1, z2⟩ := S.p2.cap
    subst hD
    exact ⟨by simp only [hyl]; exact z1, z2, y1, y2, x1, x2, fun o ho => (R o ho).2⟩
  · rw [hD]
    simp only [Cfg.pu, hyp]
  · rw [hD]
    simp only [hyl]
    exact S.tl.tl.p1.p2
end
end Go.Proofs.YtblalmgahfbalaaGreat.MX

/- The engine, part W: slices of the call's own that begin behind their block's beginning. -/
namespace Go.Proofs.YtblalmgahfbalaaGreat.MX
open Go
set_option linter.unusedSimpArgs false
set_option linter.unusedVariables false

def OwnO {α : Type} (enc : α → List Value) (sz T : Nat) (h : Heap) (v : Value) (xs : List α) : Prop :=
  (v = .slice none 0 0 ∧ xs = []) ∨
  ∃ b cap pre cs post, v = .slice (some ⟨b, pre.length, none⟩) xs.length cap ∧ xs.length ≤ cap ∧ cap < 9223372036854775808 ∧ blk h b = some (pre ++ ((xs.flatMap enc ++ cs) ++ post), T, (0, 0)) ∧ (xs.flatMap enc ++ cs).length = cap * sz
section
variable {α : Type} {enc : α → List Value} {sz T : Nat} {h h' : Heap} {v : Value} {xs : List α}
theorem Own.toO {base : Nat} (ho : Own enc sz T base h v xs) : OwnO enc sz T h v xs := by
  rcases ho with ho | ⟨b, cap, cs, hv, _, h1, h2, h3, h4⟩
  · exact .inl ho
  · exact .inr ⟨b, cap, [], cs, [], hv, h1, h2, by simpa using h3, h4⟩
theorem OwnO.lt (ho : OwnO enc sz T h v xs) : ∀ b ∈ blkOf v, b < h.size := by
  rcases ho with ⟨rfl, _⟩ | ⟨b, cap, pre, cs, post, rfl, _, _, hb, _⟩
  · intro b hb; cases hb
  · intro b' hb'
    simp only [blkOf, List.mem_singleton] at hb'
    subst hb'
    exact blk_lt hb
theorem OwnO.keep (ho : OwnO enc sz T h v xs) (hk : ∀ b ∈ blkOf v, blk h' b = blk h b) : OwnO enc sz T h' v xs := by
  rcases ho with ho | ⟨b, cap, pre, cs, post, rfl, h1, h2, hb, h4⟩
  · exact .inl ho
  · exact .inr ⟨b, cap, pre, cs, post, rfl, h1, h2, by rw [hk b (by simp [blkOf])]; exact hb, h4⟩
theorem OwnO.slice (ho : OwnO enc sz T h v xs) : ∃ A c, v = .slice A xs.length c := by
  rcases ho with ⟨rfl, rfl⟩ | ⟨b, cap, pre, cs, post, rfl, _⟩
  · exact ⟨_, _, rfl⟩
  · exact ⟨_, _, rfl⟩
theorem OwnO.arr (hsz : ∀ x, (enc x).length = sz) {A : Option Addr} {n c : Nat} (ho : OwnO enc sz T h (.slice A n c) xs) : Arr enc sz h A xs ∧ n = xs.length ∧ n ≤ c ∧ c < 9223372036854775808 := by
  rcases ho with ⟨hv, rfl⟩ | ⟨b, cap, pre, cs, post, hv, h1, h2, hb, h4⟩
  · injection hv with e1 e2 e3
    subst e1 e2 e3
    exact ⟨fun i hi => by simp at hi, rfl, Nat.le_refl _, by decide⟩
  · injection hv with e1 e2 e3
    subst e1 e2 e3
    refine ⟨fun i hi => ⟨b, pre.length, rfl, ?_⟩, rfl, h1, h2⟩
    have hfl := flat_length hsz xs
    have hm : i * sz + sz ≤ xs.length * sz := by
      have := Nat.mul_le_mul_right sz (show i + 1 ≤ xs.length from hi)
      rwa [Nat.succ_mul] at this
    rw [rdN_blk hb (by simp only [List.length_append]; omega)]
    congr 1
    rw [List.append_assoc (xs.flatMap enc) cs post, List.drop_append, List.drop_of_length_le (by omega), List.nil_append, Nat.add_sub_cancel_left]
    exact flat_get hsz xs (cs ++ post) i hi
def offA (enc : α → List Value) (sz T : Nat) (v : Value) (xs : List α) : HP where
  P h B := B = blkOf v ∧ OwnO enc sz T h v xs
  loc := fun ⟨e, ho⟩ hk => ⟨e, ho.keep fun b hb => by simp only [blk, hk b (e ▸ hb)]⟩
  lt := fun ⟨e, ho⟩ b hm => ho.lt b (e ▸ hm)
variable {h0 : Heap} {l : List HP} {v' : Value} {xs' : List α}
theorem St.off (S : St h0 h (offA enc sz T v xs :: l)) : OwnO enc sz T h v xs := by
  obtain ⟨B, hp, _⟩ := S.hd
  exact hp.2
theorem St.toOff (S : St h0 h (ownA enc sz T v xs :: l)) : St h0 h (offA enc sz T v xs :: l) := by
  obtain ⟨B, hp, _, hk⟩ := S.hd
  obtain ⟨rfl, ho⟩ := hp
  exact hk h _ (blkOf v) (Fr.refl _ _) ⟨rfl, ho.toO⟩ (fun b hb => .inl hb)
theorem St.nilO (S : St h0 h l) : St h0 h (offA enc sz T (.slice none 0 0) [] :: l) := S.nilS.toOff

end
end Go.Proofs.YtblalmgahfbalaaGreat.MX

/- The engine, part X: slices.Delete, slices.Insert, slices.BinarySearchFunc on slices that begin wherever. -/
namespace Go.Proofs.YtblalmgahfbalaaGreat.MX
open Go
set_option linter.unusedSimpArgs false
set_option linter.unusedVariables false
section
variable {P : Program} {α : Type} {enc : α → List Value} {T sz bytes : Nat} {z : List Value} {h : Heap} {A : Option Addr} {n c : Nat} {xs : List α}

/-! append(s, make(S, n)...), and whether two slices overlap: laws of their own. -/
end
end Go.Proofs.YtblalmgahfbalaaGreat.MX

/- Timers, part 1: slices.Insert of one timer. -/
namespace Go.Proofs.YtblalmgahfbalaaGreat.MX
open Go Go.Proofs
set_option linter.unusedSimpArgs false
set_option linter.unusedVariables false
set_option maxHeartbeats 4000000
structure Tm where
  day : Int
  num : Int
deriving DecidableEq
def tmE (x : Tm) : List Value := [.int .i64 x.day, .int .i64 x.num]
section
variable {h : Heap} {v : Value} {xs : List Tm}
end
end Go.Proofs.YtblalmgahfbalaaGreat.MX

/- Timers, part 2: the order of two, and where one belongs. -/
namespace Go.Proofs.YtblalmgahfbalaaGreat.MX
open Go Go.Proofs
set_option linter.unusedSimpArgs false
set_option linter.unusedVariables false
set_option maxHeartbeats 4000000
def aheadT (a b : Tm) : Prop := a.day < b.day ∨ (a.day = b.day ∧ a.num < b.num)
instance (a b : Tm) : Decidable (aheadT a b) := by unfold aheadT; exact inferInstance
section
variable {h0 h : Heap} {l : List HP}
end
end Go.Proofs.YtblalmgahfbalaaGreat.MX

/- Timers, part 3: the methods. -/
namespace Go.Proofs.YtblalmgahfbalaaGreat.MX
open Go Go.Proofs
set_option linter.unusedSimpArgs false
set_option linter.unusedVariables false
set_option maxHeartbeats 4000000
def timA (t : Nat) (L : List Tm) : HP := exA fun s => starA (cellA t [s] 85) (offA tmE 2 185 s L)
section
variable {h0 h : Heap} {l : List HP} {t : Nat} {L : List Tm}
theorem St.tim : St h0 h (timA t L :: l) ↔ ∃ s, St h0 h (cellA t [s] 85 :: offA tmE 2 185 s L :: l) := by
  unfold timA
  rw [St.ex]
  simp only [St.star]
end
end Go.Proofs.YtblalmgahfbalaaGreat.MX

/- Timers, part 4: Day, Stop, Set, Due. -/
namespace Go.Proofs.YtblalmgahfbalaaGreat.MX
open Go Go.Proofs
set_option linter.unusedSimpArgs false
set_option linter.unusedVariables false
set_option maxHeartbeats 4000000
section
variable {h0 h : Heap} {l : List HP} {t : Nat} {L : List Tm}
theorem St.apart {b : Nat} {cs : List Value} {T T' sz : Nat} {α : Type} {enc : α → List Value} {v : Value} {xs : List α} (S : St h0 h (cellA b cs T :: offA enc sz T' v xs :: l)) : b ∉ blkOf v := by
  obtain ⟨_, C, hp, _, D, hq, hd, _⟩ := S
  obtain ⟨rfl, _⟩ := hp
  obtain ⟨rfl, _⟩ := hq
  exact fun hm => (hd b hm).2 (by simp)
end
end Go.Proofs.YtblalmgahfbalaaGreat.MX

/- Timers, part 5: the law's awake; TimerNil. -/
namespace Go.Proofs.YtblalmgahfbalaaGreat.MX
open Go Go.Proofs
set_option linter.unusedSimpArgs false
set_option linter.unusedVariables false
set_option maxHeartbeats 4000000
theorem tim_new {h0 h : Heap} {l : List HP} {t : Nat} (S : St h0 h (cellA t [.slice none 0 0] 85 :: l)) : St h0 h (timA t [] :: l) := St.tim.2 ⟨_, S.nilO.p1⟩
end Go.Proofs.YtblalmgahfbalaaGreat.MX

/- The saga: what stands in the heap for it. -/
namespace Go.Proofs.YtblalmgahfbalaaGreat.MX
open Go Go.Proofs
set_option linter.unusedSimpArgs false
set_option linter.unusedVariables false
set_option maxHeartbeats 8000000
structure Led where
  a : Int
  b : Int
  c : Int
  d : Int
  e : Int
/-- A saga, but its config and its units. -/
structure Sag where
  K : List KU
  led : Led
  R : List Ret
  T : List Tm
  key : Int
  O : List Msg
  now : Int
def cfgA (D : Cfg) : HP := starsA (ownA Odr.enc 5 66 (.slice D.A1 D.os.length D.c1) D.os :: ownA Sup.enc 3 71 (.slice D.A2 D.ss.length D.c2) D.ss :: ownA Pol.enc 16 48 (.slice D.A3 D.ps.length D.c3) D.ps :: D.os.map oRow)
def retRow (x : RetV) : HP := starA (ownA zEnc 1 3 (.slice x.A x.r.us.length x.c) x.r.us) (ownA zEnc 1 3 (.slice x.B x.r.gs.length x.d) x.r.gs)
def rmasA (s : Value) (R : List Ret) : HP := exA fun vs : List RetV => starsA (pureA (vs.map RetV.r = R) :: ownA RetV.enc 14 35 s vs :: vs.map retRow)
def sagE (D : Cfg) (u : Value) (k t o : Nat) (rs sd : Value) (s : Sag) : List Value := [.slice D.A1 D.os.length D.c1, .slice D.A2 D.ss.length D.c2, .slice D.A3 D.ps.length D.c3, u, .pointer (some ⟨k, 0, none⟩), .int .i64 s.led.a, .int .i64 s.led.b, .int .i64 s.led.c, .int .i64 s.led.d, .int .i64 s.led.e, rs, .pointer (some ⟨t, 0, none⟩), .pointer (some ⟨o, 0, none⟩), .int .i64 s.now, sd]
def sagaA (p : Nat) (D : Cfg) (u : Value) (s : Sag) : HP := exA fun x : Nat × Nat × Nat × Value => starsA [cellA p (sagE D u x.1 x.2.1 x.2.2.1 x.2.2.2 (.slice none 0 0) s) 94, stockA x.1 s.K, timA x.2.1 s.T, obxA x.2.2.1 s.key s.O, rmasA x.2.2.2 s.R]
/-- What is never turned: the config, and the units. -/
def stcA (D : Cfg) (u : Value) (U : List Unt) : HP := starA (cfgA D) (ownA Unt.enc 4 76 u U)
section
variable {h0 h : Heap} {l : List HP} {p : Nat} {D : Cfg} {u : Value} {s : Sag} {U : List Unt}
theorem cfgA_rd (S : St h0 h (cfgA D :: l)) : D.rd h := by
  have S := St.stars.1 S
  simp only [List.cons_append] at S
  have R := rows_arr (L := [_, _, _]) S
  exact ⟨S.arr Odr.enc_len, fun o ho => (R o ho).1, S.p1.arr Sup.enc_len, S.p2.arr Pol.enc_len⟩
theorem cfgA_in (S : St h0 h l) (hm : cfgA D ∈ l) : D.rd h := by
  obtain ⟨M, S⟩ := st_mem S hm
  exact cfgA_rd S
theorem stcA_rd (S : St h0 h (stcA D u U :: l)) : D.rd h ∧ ∃ A c, u = .slice A U.length c ∧ Arr Unt.enc 4 h A U := by
  have S := St.star.1 S
  refine ⟨cfgA_rd S, ?_⟩
  obtain ⟨A, c, rfl⟩ := S.p1.sl
  exact ⟨A, c, rfl, S.p1.arr Unt.enc_len⟩
theorem stcA_in (S : St h0 h l) (hm : stcA D u U ∈ l) : D.rd h ∧ ∃ A c, u = .slice A U.length c ∧ Arr Unt.enc 4 h A U := by
  obtain ⟨M, S⟩ := st_mem S hm
  exact stcA_rd S
theorem St.rmas {v : Value} {R : List Ret} : St h0 h (rmasA v R :: l) ↔ ∃ vs, vs.map RetV.r = R ∧ St h0 h (ownA RetV.enc 14 35 v vs :: (vs.map retRow ++ l)) := by
  rw [rmasA, St.ex]
  refine exists_congr fun vs => ?_
  rw [St.stars]
  exact St.pure
theorem St.saga : St h0 h (sagaA p D u s :: l) ↔ ∃ k t o rs, St h0 h (cellA p (sagE D u k t o rs (.slice none 0 0) s) 94 :: stockA k s.K :: timA t s.T :: obxA o s.key s.O :: rmasA rs s.R :: l) := by
  rw [sagaA, St.ex]
  constructor
  · rintro ⟨⟨k, t, o, rs⟩, S⟩
    exact ⟨k, t, o, rs, St.stars.1 S⟩
  · rintro ⟨k, t, o, rs, S⟩
    exact ⟨⟨k, t, o, rs⟩, St.stars.2 S⟩
theorem retRow_in {x : RetV} (S : St h0 h l) (hm : retRow x ∈ l) : Arr zEnc 1 h x.A x.r.us ∧ Arr zEnc 1 h x.B x.r.gs := by
  obtain ⟨M, S⟩ := st_mem S hm
  have S := St.star.1 S
  exact ⟨S.arr zEnc_len, S.p1.arr zEnc_len⟩
/-- A config's clone. -/
theorem okCfg.len {D : Cfg} (hok : okCfg D) : D.os.length ≤ 20 ∧ D.ss.length ≤ 20 ∧ D.ps.length ≤ 16 ∧ ∀ o ∈ D.os, o.ls.length ≤ 8 := by
  obtain ⟨k0, k1, k2, k3, k4, _⟩ := id hok
  exact ⟨k1, k2, k0.1, fun o ho => (k3 o ho).1.2.1.2⟩
theorem CfgClone_ok (C : Cfg) (r : ∀ h', St h0 h' l → C.rd h') (hok : okCfg C) (S : St h0 h l) :
    CallsH Tryz.prog 29 [.agg C.enc.toArray] h fun v h' => ∃ D : Cfg, v = .agg D.enc.toArray ∧ D.wf ∧ D.pu = C.pu ∧ St h0 h' (cfgA D :: l) := by
  obtain ⟨k1, k2, k3, k4⟩ := hok.len
  refine (OClone_ok C r (by omega) (by omega) (by omega) (fun o ho => by have := k4 o ho; omega) S).mono ?_
  rintro v h' ⟨D, rfl, hw, hp, S⟩
  exact ⟨D, rfl, hw, hp, St.stars.2 S⟩
/-! What a saga has. -/
theorem Config_ok (S : St h0 h (sagaA p D u s :: l)) (r : ∀ h', St h0 h' l → D.rd h') (hok : okCfg D) :
    CallsH Tryz.prog 33 [.pointer (some ⟨p, 0, none⟩)] h fun v h' => ∃ E : Cfg, v = .agg E.enc.toArray ∧ E.wf ∧ E.pu = D.pu ∧ St h0 h' (cfgA E :: sagaA p D u s :: l) := by
  (refine enterK c_saga_Saga_Config (Nat.le_of_ble_eq_true rfl) fun K hK => ?_; (try simp (maxSteps := 1000000) (disch := first | omega | assumption | exact Nat.le_of_ble_eq_true rfl) only [go_sem, ↓mwp_block, simprocAttr, ir_saga_Saga_Config]))
  (refine st_alloc S ?_; clear S; intro g h S; (try simp only [splice_cons, splice_nil, List.set_cons_zero, List.set_cons_succ, Nat.zero_add, Nat.reduceAdd, List.cons_append, List.nil_append] at S); ((try clear F); have F := S.all; (try simp only [all_cons, all_nil, says_cell, and_true] at F)))
  obtain ⟨k, t, o, rs, S⟩ := St.saga.1 S.p1
  ((try clear F); have F := S.all; (try simp only [all_cons, all_nil, says_cell, and_true] at F))
  (try simp (maxSteps := 1000000) (disch := first | omega | assumption | exact Nat.le_of_ble_eq_true rfl) only [go_sem, ↓mwp_block, simprocAttr, F, sagE])
  rw [show [Value.slice D.A1 D.os.length D.c1, .slice D.A2 D.ss.length D.c2, .slice D.A3 D.ps.length D.c3] = D.enc from rfl]
  refine call_intro (CfgClone_ok D (fun h' S => r h' S.tl.tl.tl.tl.tl.tl) hok S) ?_
  clear S F
  rintro _ h ⟨E, rfl, hw, hp, S⟩
  (try simp (maxSteps := 1000000) (disch := first | omega | assumption | exact Nat.le_of_ble_eq_true rfl) only [go_sem, ↓mwp_block, simprocAttr])
  refine st_store S.p6 rfl rfl (Nat.le_of_ble_eq_true rfl) ?_
  clear S
  intro h S
  rw [Cfg.enc] at S
  (try simp only [splice_cons, splice_nil, List.set_cons_zero, List.set_cons_succ, Nat.zero_add, Nat.reduceAdd, List.cons_append, List.nil_append] at S)
  ((try clear F); have F := S.all; (try simp only [all_cons, all_nil, says_cell, and_true] at F))
  (try simp (maxSteps := 1000000) (disch := first | omega | assumption | exact Nat.le_of_ble_eq_true rfl) only [go_sem, ↓mwp_block, simprocAttr, F])
  exact hK _ _ ⟨E, rfl, hw, hp, (St.saga.2 ⟨k, t, o, rs, S.tl.p5.p5.p5.p5.p5⟩).p1⟩
theorem Ledger_ok (S : St h0 h (sagaA p D u s :: l)) :
    CallsH Tryz.prog 32 [.pointer (some ⟨p, 0, none⟩)] h fun v h' => v = .agg (List.toArray [.int .i64 s.led.a, .int .i64 s.led.b, .int .i64 s.led.c, .int .i64 s.led.d, .int .i64 s.led.e]) ∧ St h0 h' (sagaA p D u s :: l) := by
  (refine enterK c_saga_Saga_Ledger (Nat.le_of_ble_eq_true rfl) fun K hK => ?_; (try simp (maxSteps := 1000000) (disch := first | omega | assumption | exact Nat.le_of_ble_eq_true rfl) only [go_sem, ↓mwp_block, simprocAttr, ir_saga_Saga_Ledger]))
  (refine st_alloc S ?_; clear S; intro g h S; (try simp only [splice_cons, splice_nil, List.set_cons_zero, List.set_cons_succ, Nat.zero_add, Nat.reduceAdd, List.cons_append, List.nil_append] at S); ((try clear F); have F := S.all; (try simp only [all_cons, all_nil, says_cell, and_true] at F)))
  obtain ⟨k, t, o, rs, S⟩ := St.saga.1 S.p1
  ((try clear F); have F := S.all; (try simp only [all_cons, all_nil, says_cell, and_true] at F))
  (try simp (maxSteps := 1000000) (disch := first | omega | assumption | exact Nat.le_of_ble_eq_true rfl) only [go_sem, ↓mwp_block, simprocAttr, F, sagE])
  refine st_store S.p5 rfl rfl (Nat.le_of_ble_eq_true rfl) ?_
  clear S F
  intro h S
  (try simp only [splice_cons, splice_nil, List.set_cons_zero, List.set_cons_succ, Nat.zero_add, Nat.reduceAdd, List.cons_append, List.nil_append] at S)
  ((try clear F); have F := S.all; (try simp only [all_cons, all_nil, says_cell, and_true] at F))
  (try simp (maxSteps := 1000000) (disch := first | omega | assumption | exact Nat.le_of_ble_eq_true rfl) only [go_sem, ↓mwp_block, simprocAttr, F])
  exact hK _ _ ⟨rfl, St.saga.2 ⟨k, t, o, rs, S.tl⟩⟩
theorem CloneU_ok {A : Option Addr} {n c : Nat} {xs : List Unt} (S : St h0 h l) (ha : Arr Unt.enc 4 h A xs) (hn : n = xs.length) (hl : xs.length < 1000000000) :
    CallsH Tryz.prog 57 [.slice A n c] h fun v h' => St h0 h' (ownA Unt.enc 4 76 v xs :: l) :=
  (clone_ok (T := 76) (sz := 4) (bytes := 32) c_slices_Clone_order_Unit_order_Unit Unt.enc_len (by omega) Unt.enc_plain rfl ha hn (arr_none ha) (by omega) (by omega)).mono fun v h' ⟨ho, hf, _⟩ => S.ownNew hf ho
theorem Units_ok {A : Option Addr} {c : Nat} (S : St h0 h (sagaA p D (.slice A U.length c) s :: l)) (r : ∀ h', St h0 h' l → Arr Unt.enc 4 h' A U) (hl : U.length < 1000000) :
    CallsH Tryz.prog 34 [.pointer (some ⟨p, 0, none⟩)] h fun v h' => St h0 h' (ownA Unt.enc 4 76 v U :: sagaA p D (.slice A U.length c) s :: l) := by
  (refine enterK c_saga_Saga_Units (Nat.le_of_ble_eq_true rfl) fun K hK => ?_; (try simp (maxSteps := 1000000) (disch := first | omega | assumption | exact Nat.le_of_ble_eq_true rfl) only [go_sem, ↓mwp_block, simprocAttr, ir_saga_Saga_Units]))
  have hr := r _ S.tl
  obtain ⟨k, t, o, rs, S1⟩ := St.saga.1 S
  have F := S1.all
  simp only [all_cons, all_nil, says_cell, and_true] at F
  (try simp (maxSteps := 1000000) (disch := first | omega | assumption | exact Nat.le_of_ble_eq_true rfl) only [go_sem, ↓mwp_block, simprocAttr, F, sagE])
  refine call_intro (CloneU_ok S hr rfl (by omega)) ?_
  intro v h S
  (try simp (maxSteps := 1000000) (disch := first | omega | assumption | exact Nat.le_of_ble_eq_true rfl) only [go_sem, ↓mwp_block, simprocAttr])
  exact hK _ _ S
theorem StockS_ok (S : St h0 h (sagaA p D u s :: l)) (hl : s.K.length < 1000000) :
    CallsH Tryz.prog 36 [.pointer (some ⟨p, 0, none⟩)] h fun v h' => ∃ k, v = .pointer (some ⟨k, 0, none⟩) ∧ St h0 h' (stockA k s.K :: sagaA p D u s :: l) := by
  (refine enterK c_saga_Saga_Stock (Nat.le_of_ble_eq_true rfl) fun K hK => ?_; (try simp (maxSteps := 1000000) (disch := first | omega | assumption | exact Nat.le_of_ble_eq_true rfl) only [go_sem, ↓mwp_block, simprocAttr, ir_saga_Saga_Stock]))
  obtain ⟨k, t, o, rs, S⟩ := St.saga.1 S
  ((try clear F); have F := S.all; (try simp only [all_cons, all_nil, says_cell, and_true] at F))
  (try simp (maxSteps := 1000000) (disch := first | omega | assumption | exact Nat.le_of_ble_eq_true rfl) only [go_sem, ↓mwp_block, simprocAttr, F, sagE])
  refine call_intro (CloneK_ok S.p1 hl) ?_
  clear S F
  rintro _ h ⟨q, rfl, S⟩
  (try simp (maxSteps := 1000000) (disch := first | omega | assumption | exact Nat.le_of_ble_eq_true rfl) only [go_sem, ↓mwp_block, simprocAttr])
  exact hK _ _ ⟨q, rfl, (St.saga.2 ⟨k, t, o, rs, (by (refine St.perm S ?_; repeat (with_reducible first | exact List.Perm.refl _ | refine pm0 ?_ | refine pm1 ?_ | refine pm2 ?_ | refine pm3 ?_ | refine pm4 ?_ | refine pm5 ?_ | refine pm6 ?_ | refine pm7 ?_ | refine pm8 ?_ | refine pm9 ?_ | refine pm10 ?_ | refine pm11 ?_ | refine pm12 ?_)) )⟩).p1⟩
theorem OutboxS_ok (S : St h0 h (sagaA p D u s :: l)) (hl : s.O.length < 1000000) :
    CallsH Tryz.prog 41 [.pointer (some ⟨p, 0, none⟩)] h fun v h' => ∃ o, v = .pointer (some ⟨o, 0, none⟩) ∧ St h0 h' (obxA o s.key s.O :: sagaA p D u s :: l) := by
  (refine enterK c_saga_Saga_Outbox (Nat.le_of_ble_eq_true rfl) fun K hK => ?_; (try simp (maxSteps := 1000000) (disch := first | omega | assumption | exact Nat.le_of_ble_eq_true rfl) only [go_sem, ↓mwp_block, simprocAttr, ir_saga_Saga_Outbox]))
  obtain ⟨k, t, o, rs, S⟩ := St.saga.1 S
  ((try clear F); have F := S.all; (try simp only [all_cons, all_nil, says_cell, and_true] at F))
  (try simp (maxSteps := 1000000) (disch := first | omega | assumption | exact Nat.le_of_ble_eq_true rfl) only [go_sem, ↓mwp_block, simprocAttr, F, sagE])
  refine call_intro (CloneOut_ok S.p3 hl) ?_
  clear S F
  rintro _ h ⟨q, rfl, S⟩
  (try simp (maxSteps := 1000000) (disch := first | omega | assumption | exact Nat.le_of_ble_eq_true rfl) only [go_sem, ↓mwp_block, simprocAttr])
  exact hK _ _ ⟨q, rfl, (St.saga.2 ⟨k, t, o, rs, (by (refine St.perm S ?_; repeat (with_reducible first | exact List.Perm.refl _ | refine pm0 ?_ | refine pm1 ?_ | refine pm2 ?_ | refine pm3 ?_ | refine pm4 ?_ | refine pm5 ?_ | refine pm6 ?_ | refine pm7 ?_ | refine pm8 ?_ | refine pm9 ?_ | refine pm10 ?_ | refine pm11 ?_ | refine pm12 ?_)) )⟩).p1⟩
end
end Go.Proofs.YtblalmgahfbalaaGreat.MX
