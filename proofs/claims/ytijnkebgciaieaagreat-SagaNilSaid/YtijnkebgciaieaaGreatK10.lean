import Derived.Test.YtijnkebgciaieaaGreatK08
import Derived.Test.YtijnkebgciaieaaGreatK09
namespace Go.Proofs.YtijnkebgciaieaaGreat.MX
open Go Go.Proofs
set_option linter.unusedSimpArgs false
set_option linter.unusedVariables false
theorem zplain : ∀ n, pC (zerosL [Value.int IntKind.i64 0, Value.int IntKind.i64 0, Value.int IntKind.i64 0, Value.int IntKind.i64 0, Value.int IntKind.i64 0, Value.int IntKind.i64 0] n) = true
 | 0 => rfl
 | n + 1 => by simp only [zerosL, l_j, l_k, plain_int, zplain n]
theorem CloneMsg_ok {h : Heap} {A : Option Addr} {n c : Nat} {xs : List Msg} (ha : Arr Msg.enc 6 h A xs) (hn : n = xs.length) (hA : A = none → xs = []) (hl : xs.length < 1000000000) :
  CallsH Tryz.prog 47 [.slice A n c] h fun v h' => Own Msg.enc 6 110 h.size h' v xs ∧ Fr h h' [] ∧ (A = none → v = .slice none 0 0) :=
 clone_ok (T := 110) (sz := 6) (bytes := 48) c_slices_Clone_outbox_Message_outbox_Message enc_len (by omega) enc_plain rfl ha hn hA (by omega) (by omega)
theorem Own.nilA {α : Type} {enc : α → List Value} {sz T base : Nat} {h : Heap} {A : Option Addr} {n c : Nat} {xs : List α} (ho : Own enc sz T base h (.slice A n c) xs) : A = none → xs = [] := by
 rintro rfl
 rcases ho with ⟨hv, rfl⟩ | ⟨b, cap, cs, hv, _⟩
 ·rfl
 ·cases hv
theorem IsOb.fr {base : Nat} {h h' : Heap} {o : Nat} {s : Value} {next : Int} {l : List Msg} {M : List Nat} (hi : IsOb base h o s next l) (hf : Fr h h' M) (hm : ∀ b, b = o ∨ b ∈ blkOf s → b ∉ M) : IsOb base h' o s next l :=
 ⟨by rw [hf.blk hi.lt (hm _ (.inl rfl))]; exact hi.blk, hi.ge, hi.own.fr hf fun b hb => hm b (.inr hb), hi.apart⟩
def waitsOf (rma : Int) (l : List Msg) : Nat := (l.filter fun m => decide (m.rma = rma ∧ m.kind ≠ 1)).length
theorem heardAsk (key : Int) {h : Heap} {k : Nat} {M : List Nat} (hk : rd1 h (.pointer (some ⟨k, 0, none⟩)) = some (.int .i64 key)) (hlt : k < h.size) (hm : k ∉ M) :
  Asks Tryz.prog Msg.enc h M (.func (.func 122) #[] (List.toArray [.pointer (some ⟨k, 0, none⟩)])) fun m => decide (m.key = key) := by
 refine ⟨_, _, rfl, ok_outbox_Outbox_Heard_1, fun x h' hf => ?_⟩
 have h1 : rd1 h' (.pointer (some ⟨k, 0, none⟩)) = some (.int .i64 key) := by rw [hf.rd1 hlt hm]; exact hk
 have := hf.size
 refine eK c_outbox_Outbox_Heard_1 (l_a rfl) fun K hK => ?_
 simp (disch := first | omega | assumption | ((repeat' (first | exact Fr.refl _ _ | assumption | (refine Fr.via (by assumption) ?_ (by intro i hi hm; first | exact hm | exact l_l _ hm | exact absurd hm l_d | (simp only [l_e, l_y, l_d, or_false] at hm ⊢; omega))) | refine Fr.push ?_ _ | (refine Fr.setM ?_ ?_ _; · first | exact l_n | (simp only [l_e, true_or, or_true]; done)) | (refine Fr.setN ?_ ?_ _; · first | omega | (simp only [l_c, l_b]; omega)))); done) | (simp only [l_c, l_b, l_f, l_g, l_e, l_d, or_false, false_or, l_ab, not_or]; done) | (simp only [l_c, l_b, l_f, l_g, l_e, l_d, or_false, false_or, not_or]; omega)) only [go_sem, ↓wBk, ↓eA, ↓eB, ↓eS, sT, simprocAttr, ir_outbox_Outbox_Heard_1]
 simp (disch := first | omega | assumption | ((repeat' (first | exact Fr.refl _ _ | assumption | (refine Fr.via (by assumption) ?_ (by intro i hi hm; first | exact hm | exact l_l _ hm | exact absurd hm l_d | (simp only [l_e, l_y, l_d, or_false] at hm ⊢; omega))) | refine Fr.push ?_ _ | (refine Fr.setM ?_ ?_ _; · first | exact l_n | (simp only [l_e, true_or, or_true]; done)) | (refine Fr.setN ?_ ?_ _; · first | omega | (simp only [l_c, l_b]; omega)))); done) | (simp only [l_c, l_b, l_f, l_g, l_e, l_d, or_false, false_or, l_ab, not_or]; done) | (simp only [l_c, l_b, l_f, l_g, l_e, l_d, or_false, false_or, not_or]; omega)) only [go_sem, ↓wBk, ↓eA, ↓eB, ↓eS, sT, simprocAttr, h1, Msg.enc, dcd_eq]
 refine hK _ _ ⟨rfl, by ((repeat' (first | exact Fr.refl _ _ | assumption | (refine Fr.via (by assumption) ?_ (by intro i hi hm; first | exact hm | exact l_l _ hm | exact absurd hm l_d | (simp only [l_e, l_y, l_d, or_false] at hm ⊢; omega))) | refine Fr.push ?_ _ | (refine Fr.setM ?_ ?_ _; · first | exact l_n | (simp only [l_e, true_or, or_true]; done)) | (refine Fr.setN ?_ ?_ _; · first | omega | (simp only [l_c, l_b]; omega)))); done)⟩
theorem dropAsk (rma kind : Int) {h : Heap} {k1 k2 : Nat} {M : List Nat} (hk1 : rd1 h (.pointer (some ⟨k1, 0, none⟩)) = some (.int .i64 rma)) (hk2 : rd1 h (.pointer (some ⟨k2, 0, none⟩)) = some (.int .i64 kind)) (hlt1 : k1 < h.size) (hlt2 : k2 < h.size) (hm1 : k1 ∉ M) (hm2 : k2 ∉ M) :
  Asks Tryz.prog Msg.enc h M (.func (.func 107) #[] (List.toArray [.pointer (some ⟨k1, 0, none⟩), .pointer (some ⟨k2, 0, none⟩)])) fun m => decide (m.rma = rma ∧ m.kind = kind) := by
 refine ⟨_, _, rfl, ok_outbox_Outbox_Drop_1, fun x h' hf => ?_⟩
 have h1 : rd1 h' (.pointer (some ⟨k1, 0, none⟩)) = some (.int .i64 rma) := by rw [hf.rd1 hlt1 hm1]; exact hk1
 have h2 : rd1 h' (.pointer (some ⟨k2, 0, none⟩)) = some (.int .i64 kind) := by rw [hf.rd1 hlt2 hm2]; exact hk2
 have := hf.size
 refine eK c_outbox_Outbox_Drop_1 (l_a rfl) fun K hK => ?_
 simp (disch := first | omega | assumption | ((repeat' (first | exact Fr.refl _ _ | assumption | (refine Fr.via (by assumption) ?_ (by intro i hi hm; first | exact hm | exact l_l _ hm | exact absurd hm l_d | (simp only [l_e, l_y, l_d, or_false] at hm ⊢; omega))) | refine Fr.push ?_ _ | (refine Fr.setM ?_ ?_ _; · first | exact l_n | (simp only [l_e, true_or, or_true]; done)) | (refine Fr.setN ?_ ?_ _; · first | omega | (simp only [l_c, l_b]; omega)))); done) | (simp only [l_c, l_b, l_f, l_g, l_e, l_d, or_false, false_or, l_ab, not_or]; done) | (simp only [l_c, l_b, l_f, l_g, l_e, l_d, or_false, false_or, not_or]; omega)) only [go_sem, ↓wBk, ↓eA, ↓eB, ↓eS, sT, simprocAttr, ir_outbox_Outbox_Drop_1]
 simp (disch := first | omega | assumption | ((repeat' (first | exact Fr.refl _ _ | assumption | (refine Fr.via (by assumption) ?_ (by intro i hi hm; first | exact hm | exact l_l _ hm | exact absurd hm l_d | (simp only [l_e, l_y, l_d, or_false] at hm ⊢; omega))) | refine Fr.push ?_ _ | (refine Fr.setM ?_ ?_ _; · first | exact l_n | (simp only [l_e, true_or, or_true]; done)) | (refine Fr.setN ?_ ?_ _; · first | omega | (simp only [l_c, l_b]; omega)))); done) | (simp only [l_c, l_b, l_f, l_g, l_e, l_d, or_false, false_or, l_ab, not_or]; done) | (simp only [l_c, l_b, l_f, l_g, l_e, l_d, or_false, false_or, not_or]; omega)) only [go_sem, ↓wBk, ↓eA, ↓eB, ↓eS, sT, simprocAttr, h1, h2, Msg.enc]
 (generalize hg : dcd _ = bb; cases bb <;> (first | replace hg := of_dcd_false hg | replace hg := of_dcd_true hg) <;> (try simp (disch := first | omega | assumption | ((repeat' (first | exact Fr.refl _ _ | assumption | (refine Fr.via (by assumption) ?_ (by intro i hi hm; first | exact hm | exact l_l _ hm | exact absurd hm l_d | (simp only [l_e, l_y, l_d, or_false] at hm ⊢; omega))) | refine Fr.push ?_ _ | (refine Fr.setM ?_ ?_ _; · first | exact l_n | (simp only [l_e, true_or, or_true]; done)) | (refine Fr.setN ?_ ?_ _; · first | omega | (simp only [l_c, l_b]; omega)))); done) | (simp only [l_c, l_b, l_f, l_g, l_e, l_d, or_false, false_or, l_ab, not_or]; done) | (simp only [l_c, l_b, l_f, l_g, l_e, l_d, or_false, false_or, not_or]; omega)) only [go_sem, ↓wBk, ↓eA, ↓eB, ↓eS, sT, simprocAttr, h1, h2, Msg.enc]))
 ·refine hK _ _ ⟨by simp [hg], by ((repeat' (first | exact Fr.refl _ _ | assumption | (refine Fr.via (by assumption) ?_ (by intro i hi hm; first | exact hm | exact l_l _ hm | exact absurd hm l_d | (simp only [l_e, l_y, l_d, or_false] at hm ⊢; omega))) | refine Fr.push ?_ _ | (refine Fr.setM ?_ ?_ _; · first | exact l_n | (simp only [l_e, true_or, or_true]; done)) | (refine Fr.setN ?_ ?_ _; · first | omega | (simp only [l_c, l_b]; omega)))); done)⟩
 ·refine hK _ _ ⟨by simp [hg, dcd_eq], by ((repeat' (first | exact Fr.refl _ _ | assumption | (refine Fr.via (by assumption) ?_ (by intro i hi hm; first | exact hm | exact l_l _ hm | exact absurd hm l_d | (simp only [l_e, l_y, l_d, or_false] at hm ⊢; omega))) | refine Fr.push ?_ _ | (refine Fr.setM ?_ ?_ _; · first | exact l_n | (simp only [l_e, true_or, or_true]; done)) | (refine Fr.setN ?_ ?_ _; · first | omega | (simp only [l_c, l_b]; omega)))); done)⟩
theorem Heard_ok (key : Int) {base : Nat} {h : Heap} {o : Nat} {s : Value} {next : Int} {l : List Msg} (hi : IsOb base h o s next l) (hl : l.length < 1000000) :
  CallsH Tryz.prog 83 [.pointer (some ⟨o, 0, none⟩), .int .i64 key] h fun v h' =>
   ((idxOf (fun m : Msg => decide (m.key = key)) l 0 = -1 ∧ v = .tuple #[.agg Msg.zero.enc.toArray, .bool false] ∧ IsOb base h' o s next l) ∨
    ∃ i : Nat, ∃ hil : i < l.length, idxOf (fun m : Msg => decide (m.key = key)) l 0 = i ∧ v = .tuple #[.agg l[i].enc.toArray, .bool true] ∧ ∃ s', IsOb base h' o s' next (l.take i ++ l.drop (i + 1)) ∧ ∀ b ∈ blkOf s', b ∈ blkOf s) ∧ Fr h h' (o :: blkOf s) := by
 have hlt := hi.lt
 have hap := hi.apart
 have hge := hi.ge
 have hown := hi.own
 have hs1 : h.size ∉ blkOf s := fun hm => by have := (hi.own.lt _ hm).1; omega
 have hs2 : h.size + 1 ∉ blkOf s := fun hm => by have := (hi.own.lt _ hm).1; omega
 obtain ⟨A, c, rfl⟩ := hi.own.slice
 refine eK c_outbox_Outbox_Heard (l_a rfl) fun K hK => ?_
 simp (disch := first | omega | assumption | ((repeat' (first | exact Fr.refl _ _ | assumption | (refine Fr.via (by assumption) ?_ (by intro i hi hm; first | exact hm | exact l_l _ hm | exact absurd hm l_d | (simp only [l_e, l_y, l_d, or_false] at hm ⊢; omega))) | refine Fr.push ?_ _ | (refine Fr.setM ?_ ?_ _; · first | exact l_n | (simp only [l_e, true_or, or_true]; done)) | (refine Fr.setN ?_ ?_ _; · first | omega | (simp only [l_c, l_b]; omega)))); done) | (simp only [l_c, l_b, l_f, l_g, l_e, l_d, or_false, false_or, l_ab, not_or]; done) | (simp only [l_c, l_b, l_f, l_g, l_e, l_d, or_false, false_or, not_or]; omega)) only [go_sem, ↓wBk, ↓eA, ↓eB, ↓eS, sT, simprocAttr, ir_outbox_Outbox_Heard]
 simp (disch := first | omega | assumption | ((repeat' (first | exact Fr.refl _ _ | assumption | (refine Fr.via (by assumption) ?_ (by intro i hi hm; first | exact hm | exact l_l _ hm | exact absurd hm l_d | (simp only [l_e, l_y, l_d, or_false] at hm ⊢; omega))) | refine Fr.push ?_ _ | (refine Fr.setM ?_ ?_ _; · first | exact l_n | (simp only [l_e, true_or, or_true]; done)) | (refine Fr.setN ?_ ?_ _; · first | omega | (simp only [l_c, l_b]; omega)))); done) | (simp only [l_c, l_b, l_f, l_g, l_e, l_d, or_false, false_or, l_ab, not_or]; done) | (simp only [l_c, l_b, l_f, l_g, l_e, l_d, or_false, false_or, not_or]; omega)) only [go_sem, ↓wBk, ↓eA, ↓eB, ↓eS, sT, simprocAttr, rd1_blk hi.blk]
 have ho1 : Own Msg.enc 6 110 base ((h.push (.cells #[Value.int IntKind.i64 key] 3)).push (.cells #[Value.int IntKind.i64 0, Value.int IntKind.i64 0, Value.int IntKind.i64 0, Value.int IntKind.i64 0, Value.int IntKind.i64 0, Value.int IntKind.i64 0] 110)) (.slice A l.length c) l := hi.own.fr (M := []) (by ((repeat' (first | exact Fr.refl _ _ | assumption | (refine Fr.via (by assumption) ?_ (by intro i hi hm; first | exact hm | exact l_l _ hm | exact absurd hm l_d | (simp only [l_e, l_y, l_d, or_false] at hm ⊢; omega))) | refine Fr.push ?_ _ | (refine Fr.setM ?_ ?_ _; · first | exact l_n | (simp only [l_e, true_or, or_true]; done)) | (refine Fr.setN ?_ ?_ _; · first | omega | (simp only [l_c, l_b]; omega)))); done)) (fun _ _ => by simp)
 refine cI (indexFunc_ok (sz := 6) (p := fun m : Msg => decide (m.key = key)) c_slices_IndexFunc_outbox_Message_outbox_Message (ho1.arr enc_len).1 rfl (by omega) (heardAsk key (k := h.size) (M := []) ?_ ?_ ?_)) ?_
 ·simp (disch := first | omega | assumption | ((repeat' (first | exact Fr.refl _ _ | assumption | (refine Fr.via (by assumption) ?_ (by intro i hi hm; first | exact hm | exact l_l _ hm | exact absurd hm l_d | (simp only [l_e, l_y, l_d, or_false] at hm ⊢; omega))) | refine Fr.push ?_ _ | (refine Fr.setM ?_ ?_ _; · first | exact l_n | (simp only [l_e, true_or, or_true]; done)) | (refine Fr.setN ?_ ?_ _; · first | omega | (simp only [l_c, l_b]; omega)))); done) | (simp only [l_c, l_b, l_f, l_g, l_e, l_d, or_false, false_or, l_ab, not_or]; done) | (simp only [l_c, l_b, l_f, l_g, l_e, l_d, or_false, false_or, not_or]; omega)) only [go_sem, ↓wBk, ↓eA, ↓eB, ↓eS, sT, simprocAttr]
 ·simp; omega
 ·simp
 rintro _ h1 ⟨rfl, hf1⟩
 have hsz1 := hf1.size
 simp only [l_c] at hsz1
 have hi1 : IsOb base h1 o (.slice A l.length c) next l := (hi.fr (M := []) (by ((repeat' (first | exact Fr.refl _ _ | assumption | (refine Fr.via (by assumption) ?_ (by intro i hi hm; first | exact hm | exact l_l _ hm | exact absurd hm l_d | (simp only [l_e, l_y, l_d, or_false] at hm ⊢; omega))) | refine Fr.push ?_ _ | (refine Fr.setM ?_ ?_ _; · first | exact l_n | (simp only [l_e, true_or, or_true]; done)) | (refine Fr.setN ?_ ?_ _; · first | omega | (simp only [l_c, l_b]; omega)))); done)) (fun _ _ => by simp)).fr hf1 (fun _ _ => by simp)
 rcases idxOf_spec (fun m : Msg => decide (m.key = key)) l 0 with ⟨hx, hall⟩ | ⟨i, hx, hil, hbef, hat⟩
 ·have hx' : idxOf (fun m : Msg => decide (m.key = key)) l 0 = -1 := hx
  rw [hx']
  simp (disch := first | omega | assumption | ((repeat' (first | exact Fr.refl _ _ | assumption | (refine Fr.via (by assumption) ?_ (by intro i hi hm; first | exact hm | exact l_l _ hm | exact absurd hm l_d | (simp only [l_e, l_y, l_d, or_false] at hm ⊢; omega))) | refine Fr.push ?_ _ | (refine Fr.setM ?_ ?_ _; · first | exact l_n | (simp only [l_e, true_or, or_true]; done)) | (refine Fr.setN ?_ ?_ _; · first | omega | (simp only [l_c, l_b]; omega)))); done) | (simp only [l_c, l_b, l_f, l_g, l_e, l_d, or_false, false_or, l_ab, not_or]; done) | (simp only [l_c, l_b, l_f, l_g, l_e, l_d, or_false, false_or, not_or]; omega)) only [go_sem, ↓wBk, ↓eA, ↓eB, ↓eS, sT, simprocAttr, hf1.blk]
  refine hK _ _ ⟨.inl ⟨hx', rfl, ?_⟩, ?_⟩
  ·exact hi1.fr (M := [h.size + 1]) (by ((repeat' (first | exact Fr.refl _ _ | assumption | (refine Fr.via (by assumption) ?_ (by intro i hi hm; first | exact hm | exact l_l _ hm | exact absurd hm l_d | (simp only [l_e, l_y, l_d, or_false] at hm ⊢; omega))) | refine Fr.push ?_ _ | (refine Fr.setM ?_ ?_ _; · first | exact l_n | (simp only [l_e, true_or, or_true]; done)) | (refine Fr.setN ?_ ?_ _; · first | omega | (simp only [l_c, l_b]; omega)))); done)) (fun b hb => by
    rcases hb with rfl | hb
    ·simp; omega
    ·have := (hown.lt b hb).1
     simp; omega)
  ·((repeat' (first | exact Fr.refl _ _ | assumption | (refine Fr.via (by assumption) ?_ (by intro i hi hm; first | exact hm | exact l_l _ hm | exact absurd hm l_d | (simp only [l_e, l_y, l_d, or_false] at hm ⊢; omega))) | refine Fr.push ?_ _ | (refine Fr.setM ?_ ?_ _; · first | exact l_n | (simp only [l_e, true_or, or_true]; done)) | (refine Fr.setN ?_ ?_ _; · first | omega | (simp only [l_c, l_b]; omega)))); done)
 ·have hx' : idxOf (fun m : Msg => decide (m.key = key)) l 0 = (i : Int) := by simpa using hx
  rw [hx']
  obtain ⟨b, off, rfl, hr⟩ := (hi1.own.arr enc_len).1.at hil
  simp (disch := first | omega | assumption | ((repeat' (first | exact Fr.refl _ _ | assumption | (refine Fr.via (by assumption) ?_ (by intro i hi hm; first | exact hm | exact l_l _ hm | exact absurd hm l_d | (simp only [l_e, l_y, l_d, or_false] at hm ⊢; omega))) | refine Fr.push ?_ _ | (refine Fr.setM ?_ ?_ _; · first | exact l_n | (simp only [l_e, true_or, or_true]; done)) | (refine Fr.setN ?_ ?_ _; · first | omega | (simp only [l_c, l_b]; omega)))); done) | (simp only [l_c, l_b, l_f, l_g, l_e, l_d, or_false, false_or, l_ab, not_or]; done) | (simp only [l_c, l_b, l_f, l_g, l_e, l_d, or_false, false_or, not_or]; omega)) only [go_sem, ↓wBk, ↓eA, ↓eB, ↓eS, sT, simprocAttr, rd1_blk hi1.blk, hr, Msg.enc]
  rw [show (i : Int) + 1 = ((i + 1 : Nat) : Int) from rfl]
  have hnb : o ≠ b := fun e => hap (by simp [blkOf, e])
  have hbn : b ≠ h.size ∧ b ≠ h.size + 1 := ⟨fun e => hs1 (by simp [blkOf, e]), fun e => hs2 (by simp [blkOf, e])⟩
  have hltb := (hi1.own.lt b (by simp [blkOf])).1
  have ho2 : Own Msg.enc 6 110 base _ (.slice (some ⟨b, off, none⟩) l.length c) l := (hi1.own.fr (h' := h1.push (.cells #[Value.int IntKind.i64 0, Value.int IntKind.i64 0, Value.int IntKind.i64 0, Value.int IntKind.i64 0, Value.int IntKind.i64 0, Value.int IntKind.i64 0] 110)) (M := []) (by ((repeat' (first | exact Fr.refl _ _ | assumption | (refine Fr.via (by assumption) ?_ (by intro i hi hm; first | exact hm | exact l_l _ hm | exact absurd hm l_d | (simp only [l_e, l_y, l_d, or_false] at hm ⊢; omega))) | refine Fr.push ?_ _ | (refine Fr.setM ?_ ?_ _; · first | exact l_n | (simp only [l_e, true_or, or_true]; done)) | (refine Fr.setN ?_ ?_ _; · first | omega | (simp only [l_c, l_b]; omega)))); done)) (fun _ _ => by simp))
  refine cI (delete_ok (sz := 6) (T := 110) (bytes := 48) (i := i) (j := i + 1) c_slices_Delete_outbox_Message_outbox_Message enc_len (by omega) enc_plain rfl zplain (hi1.own.keep (fun b' hb' => ?_)) (by omega) (by omega) (by omega)) ?_
  ·simp only [blkOf, l_aa] at hb'
   subst hb'
   simp (disch := first | omega | assumption | ((repeat' (first | exact Fr.refl _ _ | assumption | (refine Fr.via (by assumption) ?_ (by intro i hi hm; first | exact hm | exact l_l _ hm | exact absurd hm l_d | (simp only [l_e, l_y, l_d, or_false] at hm ⊢; omega))) | refine Fr.push ?_ _ | (refine Fr.setM ?_ ?_ _; · first | exact l_n | (simp only [l_e, true_or, or_true]; done)) | (refine Fr.setN ?_ ?_ _; · first | omega | (simp only [l_c, l_b]; omega)))); done) | (simp only [l_c, l_b, l_f, l_g, l_e, l_d, or_false, false_or, l_ab, not_or]; done) | (simp only [l_c, l_b, l_f, l_g, l_e, l_d, or_false, false_or, not_or]; omega)) only [go_sem, ↓wBk, ↓eA, ↓eB, ↓eS, sT, simprocAttr]
  rintro v' h2 ⟨ho3, hf2, hb2⟩
  have hsz2 := hf2.size
  simp only [l_c, l_b] at hsz2
  obtain ⟨A', c', rfl⟩ := ho3.slice
  have hob : o ∉ blkOf (.slice (some ⟨b, off, none⟩) l.length c) := hap
  have hnn : h.size + 1 ∉ blkOf (.slice (some ⟨b, off, none⟩) l.length c) := hs2
  have hn1 : h1.size ∉ blkOf (.slice (some ⟨b, off, none⟩) l.length c) := fun hm => by simp only [blkOf, l_aa] at hm; omega
  simp (disch := first | omega | assumption | ((repeat' (first | exact Fr.refl _ _ | assumption | (refine Fr.via (by assumption) ?_ (by intro i hi hm; first | exact hm | exact l_l _ hm | exact absurd hm l_d | (simp only [l_e, l_y, l_d, or_false] at hm ⊢; omega))) | refine Fr.push ?_ _ | (refine Fr.setM ?_ ?_ _; · first | exact l_n | (simp only [l_e, true_or, or_true]; done)) | (refine Fr.setN ?_ ?_ _; · first | omega | (simp only [l_c, l_b]; omega)))); done) | (simp only [l_c, l_b, l_f, l_g, l_e, l_d, or_false, false_or, l_ab, not_or]; done) | (simp only [l_c, l_b, l_f, l_g, l_e, l_d, or_false, false_or, not_or]; omega)) only [go_sem, ↓wBk, ↓eA, ↓eB, ↓eS, sT, simprocAttr, hf2.blk, hf2.rdN, hi1.blk, hf1.blk]
  have hsub : ∀ q ∈ blkOf (.slice A' (l.take i ++ l.drop (i + 1)).length c'), q = b := fun q hq => by simpa [blkOf] using hb2 q hq
  refine hK _ _ ⟨.inr ⟨i, hil, hx', rfl, _, ⟨?_, hge, (ho3.set (fun hm => hnb (hsub _ hm))).set (fun hm => hbn.2 (hsub _ hm).symm), fun hm => hnb (hsub _ hm)⟩, hb2⟩, ?_⟩
  ·simp (disch := first | omega | assumption | ((repeat' (first | exact Fr.refl _ _ | assumption | (refine Fr.via (by assumption) ?_ (by intro i hi hm; first | exact hm | exact l_l _ hm | exact absurd hm l_d | (simp only [l_e, l_y, l_d, or_false] at hm ⊢; omega))) | refine Fr.push ?_ _ | (refine Fr.setM ?_ ?_ _; · first | exact l_n | (simp only [l_e, true_or, or_true]; done)) | (refine Fr.setN ?_ ?_ _; · first | omega | (simp only [l_c, l_b]; omega)))); done) | (simp only [l_c, l_b, l_f, l_g, l_e, l_d, or_false, false_or, l_ab, not_or]; done) | (simp only [l_c, l_b, l_f, l_g, l_e, l_d, or_false, false_or, not_or]; omega)) only [go_sem, ↓wBk, ↓eA, ↓eB, ↓eS, sT, simprocAttr]
  ·((repeat' (first | exact Fr.refl _ _ | assumption | (refine Fr.via (by assumption) ?_ (by intro i hi hm; first | exact hm | exact l_l _ hm | exact absurd hm l_d | (simp only [l_e, l_y, l_d, or_false] at hm ⊢; omega))) | refine Fr.push ?_ _ | (refine Fr.setM ?_ ?_ _; · first | exact l_n | (simp only [l_e, true_or, or_true]; done)) | (refine Fr.setN ?_ ?_ _; · first | omega | (simp only [l_c, l_b]; omega)))); done)
end Go.Proofs.YtijnkebgciaieaaGreat.MX
