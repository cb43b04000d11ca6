import Derived.Test.YtcgbhcgfdcfmaaaGreatK07
import Derived.Test.YtcgbhcgfdcfmaaaGreatIR
import Derived.Test.YtcgbhcgfdcfmaaaGreatK10
import Derived.Test.YtcgbhcgfdcfmaaaGreatK09
namespace Go.Proofs.YtcgbhcgfdcfmaaaGreat.MX
open Go Go.Proofs
set_option linter.unusedSimpArgs false
set_option linter.unusedVariables false
theorem b7b (h : c9) : d8 Tryz.prog 29 [] h fun v h' => ∃ o, v = .pointer (some ⟨o, 0, none⟩) ∧ h.size ≤ o ∧ o < h'.size ∧ blk h' o = some ([.int .i64 1, .slice none 0 0], 118, (0,0)) ∧ Fr h h' [] := by
 refine EN i29.eq_1 fun K hK => ?_
 refine Xa ?_
 exact hK _ _ ⟨_, rfl, v8 _, by simp, y7 rfl, by (exact FRR)⟩
def a7I (t : Int) : Int := if t < 1 then 0 else if t ≤ 1 then 1 else if t ≤ 2 then 2 else if t ≤ 3 then 4 else 8
theorem a7P (t : Int) (h : c9) (ht : t < 9223372036854775808) : d8 Tryz.prog 142 [.int .i64 t] h fun v h' => v = .int .i64 (a7I t) ∧ h' = h := by
 refine EN i142.eq_1 fun K hK => ?_
 refine Xa ?_
 refine cD (fun hc => ?_) (fun hc => ?_)
 ·refine Xa ?_
  exact hK _ _ ⟨by rw [a7I, if_pos hc], rfl⟩
 ·refine Xa ?_
  refine lI (fun ρ h' => h' = h ∧ ρ 0 = .int .i64 t ∧ ∃ k n : Int, ρ 3 = .int .i64 n ∧ ρ 4 = .int .i64 k ∧ k ≤ t ∧ (k = 1 ∧ n = 1 ∨ k = 2 ∧ n = 2 ∨ k = 3 ∧ n = 4 ∨ k = 4 ∧ n = 8)) (fun ρ _ => (5 - iv (ρ 4)).toNat) ?_ ?_
  ·refine Xa ?_
   exact ⟨1, 1, rfl, rfl, by omega, by omega⟩
  ·rintro ρ _ J hJ ⟨rfl, e0, k, n, e3, e4, hk, hkn⟩
   refine Xd e0 e3 e4 ?_
   refine a9p (fun h1 => ?_) (fun h1 => ?_)
   ·refine Xc e3 h1 ?_
    refine cD (fun h2 => ?_) (fun h2 => ?_)
    ·refine Xd e0 e3 e4 ?_
     refine hJ _ _ ?_ ?_
     ·refine Xb e0 ?_
      exact ⟨k + 1, n * 2, rfl, rfl, by omega, by omega⟩
     ·refine Xb e4 ?_
      omega
    ·refine Xb e3 ?_
     refine hK _ _ ⟨?_, rfl⟩
     unfold a7I
     congr 1
     rcases hkn with ⟨rfl, rfl⟩ | ⟨rfl, rfl⟩ | ⟨rfl, rfl⟩ | ⟨rfl, rfl⟩ <;> split <;> omega
   ·refine Xc h1 e3 ?_
    refine hK _ _ ⟨?_, rfl⟩
    unfold a7I
    congr 1
    rcases hkn with ⟨rfl, rfl⟩ | ⟨rfl, rfl⟩ | ⟨rfl, rfl⟩ | ⟨rfl, rfl⟩ <;> (repeat' split) <;> omega
structure Msg where
 key : Int
 kind : Int
 rma : Int
 value : Int
 tries : Int
 due : Int
 deriving DecidableEq, Inhabited
def Msg.enc (m : Msg) : List Value := [.int .i64 m.key, .int .i64 m.kind, .int .i64 m.rma, .int .i64 m.value, .int .i64 m.tries, .int .i64 m.due]
def Msg.zero : Msg := ⟨0, 0, 0, 0, 0, 0⟩
theorem enc_len (m : Msg) : m.enc.length = 6 := rfl
theorem enc_plain (m : Msg) : pC m.enc = true := rfl
structure Y0 (base : Nat) (h : c9) (o : Nat) (v : Value) (next : Int) (l : List Msg) : Prop where
 blk : blk h o = some ([.int .i64 next, v], 118, (0, 0))
 ge : base ≤ o
 own : Own Msg.enc 6 44 base h v l
 apart : o ∉ i0 v
theorem Y0.lt {base : Nat} {h : c9} {o : Nat} {v : Value} {next : Int} {l : List Msg} (i : Y0 base h o v next l) : o < h.size := B6 i.blk
theorem b8N (k r v n : Int) {base : Nat} {h : c9} {o : Nat} {s : Value} {next : Int} {l : List Msg} (hi : Y0 base h o s next l) (hday : -9223372036854775808 ≤ n ∧ n < 9223372036854775807) (hl : l.length < 1000000) :
  d8 Tryz.prog 125 [.pointer (some ⟨o, 0, none⟩), .int .i64 k, .int .i64 r, .int .i64 v, .int .i64 n] h fun u h' => u = .agg (Msg.mk next k r v 1 (n + 1)).enc.toArray ∧
   ∃ s', Y0 base h' o s' (IntKind.i64.wrap (next + 1)) (l ++ [⟨next, k, r, v, 1, n + 1⟩]) ∧ Fr h h' (o :: i0 s) ∧ ∀ b ∈ i0 s', b ∈ i0 s ∨ h.size ≤ b := by
 have hlt := hi.lt
 have hge := hi.ge
 have hap := hi.apart
 have hs1 : h.size ∉ i0 s := fun hm => by have := (hi.own.lt _ hm).1; omega
 have hs2 : h.size + 1 ∉ i0 s := fun hm => by have := (hi.own.lt _ hm).1; omega
 have hw : a7I 1 = 1 := rfl
 refine EN i125.eq_1 fun K hK => ?_
 (refine Xa ?_; try exact ⟨⟩)
 refine a0n [] ?_
 simp (disch := first | omega | assumption | ((repeat' (first | exact Fr.refl _ _ | assumption | (refine Fr.via (by assumption) ?_ (by intro i hi hm; first | exact hm | exact l_l _ hm | exact absurd hm l_d | (simp only [l_e, l_y, l_d, or_false] at hm ⊢; omega))) | refine Fr.push ?_ _ | (refine Fr.setM ?_ ?_ _; · first | exact l_n | (simp only [l_e, true_or, or_true]; done)) | (refine Fr.setN ?_ ?_ _; · first | omega | (simp only [l_c, l_b]; omega)))); done) | (simp only [l_c, l_b, l_f, l_g, l_e, l_d, or_false, false_or, O2, not_or]; done) | (simp only [l_c, l_b, l_f, l_g, l_e, l_d, or_false, false_or, not_or]; omega)) only [go_sem, ↓wBk, ↓eA, ↓eB, ↓eS, sT, simprocAttr, s9 hi.blk]
 constructor
 all_goals
  refine cI (a7P 1 _ (by omega)) ?_
  rintro _ _ ⟨rfl, rfl⟩
  simp (disch := first | omega | assumption | ((repeat' (first | exact Fr.refl _ _ | assumption | (refine Fr.via (by assumption) ?_ (by intro i hi hm; first | exact hm | exact l_l _ hm | exact absurd hm l_d | (simp only [l_e, l_y, l_d, or_false] at hm ⊢; omega))) | refine Fr.push ?_ _ | (refine Fr.setM ?_ ?_ _; · first | exact l_n | (simp only [l_e, true_or, or_true]; done)) | (refine Fr.setN ?_ ?_ _; · first | omega | (simp only [l_c, l_b]; omega)))); done) | (simp only [l_c, l_b, l_f, l_g, l_e, l_d, or_false, false_or, O2, not_or]; done) | (simp only [l_c, l_b, l_f, l_g, l_e, l_d, or_false, false_or, not_or]; omega)) only [go_sem, ↓wBk, ↓eA, ↓eB, ↓eS, sT, simprocAttr, s9 hi.blk, hw, hi.blk]
  refine a0n (i0 s) ?_
  simp (disch := first | omega | assumption | ((repeat' (first | exact Fr.refl _ _ | assumption | (refine Fr.via (by assumption) ?_ (by intro i hi hm; first | exact hm | exact l_l _ hm | exact absurd hm l_d | (simp only [l_e, l_y, l_d, or_false] at hm ⊢; omega))) | refine Fr.push ?_ _ | (refine Fr.setM ?_ ?_ _; · first | exact l_n | (simp only [l_e, true_or, or_true]; done)) | (refine Fr.setN ?_ ?_ _; · first | omega | (simp only [l_c, l_b]; omega)))); done) | (simp only [l_c, l_b, l_f, l_g, l_e, l_d, or_false, false_or, O2, not_or]; done) | (simp only [l_c, l_b, l_f, l_g, l_e, l_d, or_false, false_or, not_or]; omega)) only [go_sem, ↓wBk, ↓eA, ↓eB, ↓eS, sT, simprocAttr, s9 hi.blk, hw, hi.blk]
  refine K4 (x := Msg.mk next k r v 1 (n + 1)) enc_len (by omega) enc_plain rfl rfl (by simp) (hi.own.keep fun b hb => ?_) (by simp; omega) (by omega) (by omega) ?_
  ·have hb1 := (hi.own.lt b hb).1
   have hb2 : b ≠ o := fun e => hap (e ▸ hb)
   (refine Xa ?_; try exact ⟨⟩)
  ·intro s' h' ho' hf hb
   have hsz := hf.size
   simp only [l_c, l_b] at hsz hb
   have hlt' := ho'.lt
   obtain ⟨A', c', rfl⟩ := ho'.slice
   have hn1 : ∀ b ∈ i0 (.slice A' (l ++ [(⟨next, k, r, v, 1, n + 1⟩ : Msg)]).length c'), b ≠ o ∧ b ≠ h.size := fun b hm => by
    rcases hb b hm with h1 | h1
    ·exact ⟨fun e => hap (e ▸ h1), fun e => hs1 (e ▸ h1)⟩
    ·omega
   simp (disch := first | omega | assumption | ((repeat' (first | exact Fr.refl _ _ | assumption | (refine Fr.via (by assumption) ?_ (by intro i hi hm; first | exact hm | exact l_l _ hm | exact absurd hm l_d | (simp only [l_e, l_y, l_d, or_false] at hm ⊢; omega))) | refine Fr.push ?_ _ | (refine Fr.setM ?_ ?_ _; · first | exact l_n | (simp only [l_e, true_or, or_true]; done)) | (refine Fr.setN ?_ ?_ _; · first | omega | (simp only [l_c, l_b]; omega)))); done) | (simp only [l_c, l_b, l_f, l_g, l_e, l_d, or_false, false_or, O2, not_or]; done) | (simp only [l_c, l_b, l_f, l_g, l_e, l_d, or_false, false_or, not_or]; omega)) only [go_sem, ↓wBk, ↓eA, ↓eB, ↓eS, sT, simprocAttr, hf, s9 hi.blk, hi.blk, hf.blk, hf.rd1, hf.rdN]
   refine hK _ _ ⟨rfl, _, ⟨?_, hge, ho'.keep fun b hm => ?_, fun hm => (hn1 o hm).1 rfl⟩, ?_, ?_⟩
   ·(refine Xa ?_; try exact ⟨⟩)
   ·have := hn1 b hm
    (refine Xc @this.1 @this.2 ?_; try exact ⟨⟩)
   ·refine ⟨by simp; omega, fun b hb1 hb2 => ?_⟩
    simp only [l_e, not_or] at hb2
    rw [Array.getElem?_setIfInBounds_ne (by omega), Array.getElem?_setIfInBounds_ne (fun e => hb2.1 e.symm), hf.same b (by simp; omega) hb2.2, Array.getElem?_setIfInBounds_ne (fun e => hb2.1 e.symm), Array.getElem?_setIfInBounds_ne (by omega), Array.getElem?_push, if_neg (by simp; omega), Array.getElem?_push, if_neg (by omega)]
   ·intro b hm
    rcases hb b hm with h1 | h1
    ·exact .inl h1
    ·exact .inr (by omega)
theorem b9J (k r v n : Int) {base : Nat} {h : c9} {o : Nat} {s : Value} {next : Int} {l : List Msg} (hi : Y0 base h o s next l) (hn : 0 ≤ next ∧ next < 9223372036854775807) (hday : -9223372036854775808 ≤ n ∧ n < 9223372036854775807) (hl : l.length < 1000000) :
  d8 Tryz.prog 125 [.pointer (some ⟨o, 0, none⟩), .int .i64 k, .int .i64 r, .int .i64 v, .int .i64 n] h fun u h' => u = .agg (Msg.mk next k r v 1 (n + 1)).enc.toArray ∧
   ∃ s', Y0 base h' o s' (next + 1) (l ++ [⟨next, k, r, v, 1, n + 1⟩]) ∧ Fr h h' (o :: i0 s) ∧ ∀ b ∈ i0 s', b ∈ i0 s ∨ h.size ≤ b := by
 have := b8N k r v n hi hday hl
 rwa [m9 (by omega) (by omega)] at this

theorem b0l : ∀ n, pC (l5 [Value.int IntKind.i64 0, Value.int IntKind.i64 0, Value.int IntKind.i64 0, Value.int IntKind.i64 0, Value.int IntKind.i64 0, Value.int IntKind.i64 0] n) = true
 | 0 => rfl
 | n + 1 => by simp only [l5, l_j, l_k, a6a, b0l n]
theorem a8d {h : c9} {A : Option Addr} {n c : Nat} {xs : List Msg} (ha : Arr Msg.enc 6 h A xs) (hn : n = xs.length) (hA : A = none → xs = []) (hl : xs.length < 1000000000) :
  d8 Tryz.prog 59 [.slice A n c] h fun v h' => Own Msg.enc 6 44 h.size h' v xs ∧ Fr h h' [] ∧ (A = none → v = .slice none 0 0) :=
 N4 (T := 44) (sz := 6) (bytes := 48) i59.2 enc_len (by omega) enc_plain rfl ha hn hA (by omega) (by omega)
theorem Own.nilA {α : Type} {enc : α → List Value} {sz T base : Nat} {h : c9} {A : Option Addr} {n c : Nat} {xs : List α} (ho : Own enc sz T base h (.slice A n c) xs) : A = none → xs = [] := by
 rintro rfl
 rcases ho with ⟨hv, rfl⟩ | ⟨b, cap, cs, hv, _⟩
 ·rfl
 ·cases hv
theorem Y0.fr {base : Nat} {h h' : c9} {o : Nat} {s : Value} {next : Int} {l : List Msg} {M : List Nat} (hi : Y0 base h o s next l) (hf : Fr h h' M) (hm : ∀ b, b = o ∨ b ∈ i0 s → b ∉ M) : Y0 base h' o s next l :=
 ⟨by rw [hf.blk hi.lt (hm _ (.inl rfl))]; exact hi.blk, hi.ge, hi.own.fr hf fun b hb => hm b (.inr hb), hi.apart⟩
def n8 (rma : Int) (l : List Msg) : Nat := (l.filter fun m => decide (m.rma = rma ∧ m.kind ≠ 1)).length
theorem b6A (key : Int) {h : c9} {k : Nat} {M : List Nat} (hk : rd1 h (.pointer (some ⟨k, 0, none⟩)) = some (.int .i64 key)) (hlt : k < h.size) (hm : k ∉ M) :
  a4p Tryz.prog Msg.enc h M (.func (.func 144) #[] (List.toArray [.pointer (some ⟨k, 0, none⟩)])) fun m => decide (m.key = key) := by
 refine ⟨_, _, rfl, X9, fun x h' hf => ?_⟩
 have h1 : rd1 h' (.pointer (some ⟨k, 0, none⟩)) = some (.int .i64 key) := by rw [hf.rd1 hlt hm]; exact hk
 have := hf.size
 refine EN i144.eq_1 fun K hK => ?_
 refine Xa ?_
 refine Xd h1 @Msg.enc.eq_1 @R5 ?_
 refine hK _ _ ⟨rfl, by (exact FRR)⟩
theorem b7t (rma kind : Int) {h : c9} {k1 k2 : Nat} {M : List Nat} (hk1 : rd1 h (.pointer (some ⟨k1, 0, none⟩)) = some (.int .i64 rma)) (hk2 : rd1 h (.pointer (some ⟨k2, 0, none⟩)) = some (.int .i64 kind)) (hlt1 : k1 < h.size) (hlt2 : k2 < h.size) (hm1 : k1 ∉ M) (hm2 : k2 ∉ M) :
  a4p Tryz.prog Msg.enc h M (.func (.func 129) #[] (List.toArray [.pointer (some ⟨k1, 0, none⟩), .pointer (some ⟨k2, 0, none⟩)])) fun m => decide (m.rma = rma ∧ m.kind = kind) := by
 refine ⟨_, _, rfl, Z6, fun x h' hf => ?_⟩
 have h1 : rd1 h' (.pointer (some ⟨k1, 0, none⟩)) = some (.int .i64 rma) := by rw [hf.rd1 hlt1 hm1]; exact hk1
 have h2 : rd1 h' (.pointer (some ⟨k2, 0, none⟩)) = some (.int .i64 kind) := by rw [hf.rd1 hlt2 hm2]; exact hk2
 have := hf.size
 refine EN i129.eq_1 fun K hK => ?_
 refine Xa ?_
 refine Xd h1 h2 @Msg.enc.eq_1 ?_
 (generalize hg : dcd _ = bb; cases bb <;> (first | replace hg := x9 hg | replace hg := o7 hg) <;> (try simp (disch := first | omega | assumption | ((repeat' (first | exact Fr.refl _ _ | assumption | (refine Fr.via (by assumption) ?_ (by intro i hi hm; first | exact hm | exact l_l _ hm | exact absurd hm l_d | (simp only [l_e, l_y, l_d, or_false] at hm ⊢; omega))) | refine Fr.push ?_ _ | (refine Fr.setM ?_ ?_ _; · first | exact l_n | (simp only [l_e, true_or, or_true]; done)) | (refine Fr.setN ?_ ?_ _; · first | omega | (simp only [l_c, l_b]; omega)))); done) | (simp only [l_c, l_b, l_f, l_g, l_e, l_d, or_false, false_or, O2, not_or]; done) | (simp only [l_c, l_b, l_f, l_g, l_e, l_d, or_false, false_or, not_or]; omega)) only [go_sem, ↓wBk, ↓eA, ↓eB, ↓eS, sT, simprocAttr, h1, h2, Msg.enc]))
 ·refine hK _ _ ⟨by simp [hg], by (exact FRR)⟩
 ·refine hK _ _ ⟨by simp [hg, R5], by (exact FRR)⟩
theorem b5l (key : Int) {base : Nat} {h : c9} {o : Nat} {s : Value} {next : Int} {l : List Msg} (hi : Y0 base h o s next l) (hl : l.length < 1000000) :
  d8 Tryz.prog 97 [.pointer (some ⟨o, 0, none⟩), .int .i64 key] h fun v h' =>
   ((E9 (fun m : Msg => decide (m.key = key)) l 0 = -1 ∧ v = .tuple #[.agg Msg.zero.enc.toArray, .bool false] ∧ Y0 base h' o s next l) ∨
    ∃ i : Nat, ∃ hil : i < l.length, E9 (fun m : Msg => decide (m.key = key)) l 0 = i ∧ v = .tuple #[.agg l[i].enc.toArray, .bool true] ∧ ∃ s', Y0 base h' o s' next (l.take i ++ l.drop (i + 1)) ∧ ∀ b ∈ i0 s', b ∈ i0 s) ∧ Fr h h' (o :: i0 s) := by
 have hlt := hi.lt
 have hap := hi.apart
 have hge := hi.ge
 have hown := hi.own
 have hs1 : h.size ∉ i0 s := fun hm => by have := (hi.own.lt _ hm).1; omega
 have hs2 : h.size + 1 ∉ i0 s := fun hm => by have := (hi.own.lt _ hm).1; omega
 obtain ⟨A, c, rfl⟩ := hi.own.slice
 refine EN i97.eq_1 fun K hK => ?_
 (refine Xa ?_; try exact ⟨⟩)
 simp (disch := first | omega | assumption | (simp only [l_c, l_b, l_f, l_g, l_e, l_d, or_false, false_or, O2, not_or]; done) | (simp only [l_c, l_b, l_f, l_g, l_e, l_d, or_false, false_or, not_or]; omega)) only [go_sem, ↓wBk, ↓eA, ↓eB, ↓eS, sT, simprocAttr, s9 hi.blk]
 have ho1 : Own Msg.enc 6 44 base ((h.push (.cells #[Value.int IntKind.i64 key] 3)).push (.cells #[Value.int IntKind.i64 0, Value.int IntKind.i64 0, Value.int IntKind.i64 0, Value.int IntKind.i64 0, Value.int IntKind.i64 0, Value.int IntKind.i64 0] 44)) (.slice A l.length c) l := hi.own.fr (M := []) (by (exact FRR)) (fun _ _ => by simp)
 refine cI (M2 (sz := 6) (p := fun m : Msg => decide (m.key = key)) i143.2 (ho1.arr enc_len).1 rfl (by omega) (b6A key (k := h.size) (M := []) ?_ ?_ ?_)) ?_
 ·(refine Xa ?_; try exact ⟨⟩)
 ·simp; omega
 ·simp
 rintro _ h1 ⟨rfl, hf1⟩
 have hsz1 := hf1.size
 simp only [l_c] at hsz1
 have hi1 : Y0 base h1 o (.slice A l.length c) next l := (hi.fr (M := []) (by (exact FRR)) (fun _ _ => by simp)).fr hf1 (fun _ _ => by simp)
 rcases L1 (fun m : Msg => decide (m.key = key)) l 0 with ⟨hx, hall⟩ | ⟨i, hx, hil, hbef, hat⟩
 ·have hx' : E9 (fun m : Msg => decide (m.key = key)) l 0 = -1 := hx
  rw [hx']
  (refine Xb @hf1.blk ?_; try exact ⟨⟩)
  refine hK _ _ ⟨.inl ⟨hx', rfl, ?_⟩, ?_⟩
  ·exact hi1.fr (M := [h.size + 1]) (by (exact FRR)) (fun b hb => by
    rcases hb with rfl | hb
    ·simp; omega
    ·have := (hown.lt b hb).1
     simp; omega)
  ·(exact FRR)
 ·have hx' : E9 (fun m : Msg => decide (m.key = key)) l 0 = (i : Int) := by simpa using hx
  rw [hx']
  obtain ⟨b, off, rfl, hr⟩ := (hi1.own.arr enc_len).1.at hil
  simp (disch := first | omega | assumption | (simp only [l_c, l_b, l_f, l_g, l_e, l_d, or_false, false_or, O2, not_or]; done) | (simp only [l_c, l_b, l_f, l_g, l_e, l_d, or_false, false_or, not_or]; omega)) only [go_sem, ↓wBk, ↓eA, ↓eB, ↓eS, sT, simprocAttr, s9 hi1.blk, hr, Msg.enc]
  rw [show (i : Int) + 1 = ((i + 1 : Nat) : Int) from rfl]
  have hnb : o ≠ b := fun e => hap (by simp [i0, e])
  have hbn : b ≠ h.size ∧ b ≠ h.size + 1 := ⟨fun e => hs1 (by simp [i0, e]), fun e => hs2 (by simp [i0, e])⟩
  have hltb := (hi1.own.lt b (by simp [i0])).1
  have ho2 : Own Msg.enc 6 44 base _ (.slice (some ⟨b, off, none⟩) l.length c) l := (hi1.own.fr (h' := h1.push (.cells #[Value.int IntKind.i64 0, Value.int IntKind.i64 0, Value.int IntKind.i64 0, Value.int IntKind.i64 0, Value.int IntKind.i64 0, Value.int IntKind.i64 0] 44)) (M := []) (by (exact FRR)) (fun _ _ => by simp))
  refine cI (b2u (sz := 6) (T := 44) (bytes := 48) (i := i) (j := i + 1) i145.2 enc_len (by omega) enc_plain rfl b0l (hi1.own.keep (fun b' hb' => ?_)) (by omega) (by omega) (by omega)) ?_
  ·simp only [i0, Q9] at hb'
   subst hb'
   (refine Xa ?_; try exact ⟨⟩)
  rintro v' h2 ⟨ho3, hf2, hb2⟩
  have hsz2 := hf2.size
  simp only [l_c, l_b] at hsz2
  obtain ⟨A', c', rfl⟩ := ho3.slice
  have hob : o ∉ i0 (.slice (some ⟨b, off, none⟩) l.length c) := hap
  have hnn : h.size + 1 ∉ i0 (.slice (some ⟨b, off, none⟩) l.length c) := hs2
  have hn1 : h1.size ∉ i0 (.slice (some ⟨b, off, none⟩) l.length c) := fun hm => by simp only [i0, Q9] at hm; omega
  (refine Xe @hf2.blk @hf2.rdN @hi1.blk @hf1.blk ?_; try exact ⟨⟩)
  have hsub : ∀ q ∈ i0 (.slice A' (l.take i ++ l.drop (i + 1)).length c'), q = b := fun q hq => by simpa [i0] using hb2 q hq
  refine hK _ _ ⟨.inr ⟨i, hil, hx', rfl, _, ⟨?_, hge, (ho3.set (fun hm => hnb (hsub _ hm))).set (fun hm => hbn.2 (hsub _ hm).symm), fun hm => hnb (hsub _ hm)⟩, hb2⟩, ?_⟩
  ·(refine Xa ?_; try exact ⟨⟩)
  ·(exact FRR)
theorem b7S (rma kind : Int) {base : Nat} {h : c9} {o : Nat} {s : Value} {next : Int} {l : List Msg} (hi : Y0 base h o s next l) (hl : l.length < 1000000) :
  d8 Tryz.prog 85 [.pointer (some ⟨o, 0, none⟩), .int .i64 rma, .int .i64 kind] h fun v h' =>
   v = .int .i64 (l.length - (l.filter fun m => !decide (m.rma = rma ∧ m.kind = kind)).length) ∧ (∃ s', Y0 base h' o s' next (l.filter fun m => !decide (m.rma = rma ∧ m.kind = kind)) ∧ ∀ b ∈ i0 s', b ∈ i0 s) ∧ Fr h h' (o :: i0 s) := by
 have hlt := hi.lt
 have hap := hi.apart
 have hge := hi.ge
 have hs1 : h.size ∉ i0 s := fun hm => by have := (hi.own.lt _ hm).1; omega
 have hs2 : h.size + 1 ∉ i0 s := fun hm => by have := (hi.own.lt _ hm).1; omega
 have hown := hi.own
 obtain ⟨A, c, rfl⟩ := hi.own.slice
 refine EN i85.eq_1 fun K hK => ?_
 (refine Xa ?_; try exact ⟨⟩)
 simp (disch := first | omega | assumption | (simp only [l_c, l_b, l_f, l_g, l_e, l_d, or_false, false_or, O2, not_or]; done) | (simp only [l_c, l_b, l_f, l_g, l_e, l_d, or_false, false_or, not_or]; omega)) only [go_sem, ↓wBk, ↓eA, ↓eB, ↓eS, sT, simprocAttr, s9 hi.blk]
 have hle : (l.filter fun m => !decide (m.rma = rma ∧ m.kind = kind)).length ≤ l.length := List.length_filter_le _ _
 refine cI (a5R (sz := 6) (T := 44) (p := fun m : Msg => decide (m.rma = rma ∧ m.kind = kind)) i128.2 i143.2 enc_len (by omega) enc_plain rfl b0l hi.own.push.push (by omega) (b7t rma kind (k1 := h.size) (k2 := h.size + 1) ?_ ?_ ?_ ?_ hs1 hs2)) ?_
 ·(refine Xa ?_; try exact ⟨⟩)
 ·(refine Xa ?_; try exact ⟨⟩)
 ·simp; omega
 ·simp
 rintro v h1 ⟨ho1, hf1, hb1⟩
 have hsz1 := hf1.size
 simp only [l_c] at hsz1
 obtain ⟨A', c', rfl⟩ := ho1.slice
 have hob : o ∉ i0 (.slice A' (l.filter fun m => !decide (m.rma = rma ∧ m.kind = kind)).length c') := fun hm => hap (hb1 _ hm)
 (refine Xc @hf1.blk @hi.blk ?_; try exact ⟨⟩)
 refine hK _ _ ⟨rfl, ⟨_, ⟨?_, hge, ho1.set hob, hob⟩, hb1⟩, ?_⟩
 ·(refine Xa ?_; try exact ⟨⟩)
 ·(exact FRR)
theorem a7B (rma : Int) (l : List Msg) (i : Nat) (hi : i < l.length) : n8 rma (l.take (i + 1)) = n8 rma (l.take i) + if l[i].rma = rma ∧ l[i].kind ≠ 1 then 1 else 0 := by
 unfold n8
 rw [l_t hi, List.filter_append]
 by_cases h : l[i].rma = rma ∧ l[i].kind ≠ 1 <;> simp [List.filter_cons, h]
theorem b0q (rma : Int) (l : List Msg) : n8 rma l ≤ l.length := List.length_filter_le _ _
theorem b6e (rma : Int) {base : Nat} {h : c9} {o : Nat} {s : Value} {next : Int} {l : List Msg} (hi : Y0 base h o s next l) (hl : l.length < 1000000) :
  d8 Tryz.prog 147 [.pointer (some ⟨o, 0, none⟩), .int .i64 rma] h fun v h' => v = .int .i64 (n8 rma l) ∧ Fr h h' [] := by
 have hlt := hi.lt
 have ha0 := hi.own
 obtain ⟨A, c, rfl⟩ := hi.own.slice
 have ha := (hi.own.arr enc_len).1
 refine EN i147.eq_1 fun K hK => ?_
 refine Xa ?_
 simp (disch := first | omega | assumption | (simp only [l_c, l_b, l_f, l_g, l_e, l_d, or_false, false_or, O2, not_or]; done) | (simp only [l_c, l_b, l_f, l_g, l_e, l_d, or_false, false_or, not_or]; omega)) only [go_sem, ↓wBk, ↓eA, ↓eB, ↓eS, sT, simprocAttr, s9 hi.blk]
 refine lI (fun ρ h' => Fr h h' [] ∧ ρ 1 = .int .i64 rma ∧ ρ 13 = .slice A l.length c ∧ ρ 14 = .int .i64 l.length ∧ ∃ i : Nat, ρ 15 = .int .i64 i ∧ i ≤ l.length ∧ ρ 5 = .int .i64 (n8 rma (l.take i))) (fun ρ _ => l.length - (iv (ρ 15)).toNat) ?_ ?_
 ·refine Xa ?_
  exact ⟨Fr.refl _ _, 0, rfl, Nat.zero_le _, rfl⟩
 ·rintro ρ h' J hJ ⟨hf, e1, e13, e14, i, e15, hil, e5⟩
  have hszh := hf.size
  refine Xc e15 e14 ?_
  (generalize hg : dcd _ = bb; cases bb <;> (first | replace hg := x9 hg | replace hg := o7 hg) <;> (try simp (disch := first | omega | assumption | ((repeat' (first | exact Fr.refl _ _ | assumption | (refine Fr.via (by assumption) ?_ (by intro i hi hm; first | exact hm | exact l_l _ hm | exact absurd hm l_d | (simp only [l_e, l_y, l_d, or_false] at hm ⊢; omega))) | refine Fr.push ?_ _ | (refine Fr.setM ?_ ?_ _; · first | exact l_n | (simp only [l_e, true_or, or_true]; done)) | (refine Fr.setN ?_ ?_ _; · first | omega | (simp only [l_c, l_b]; omega)))); done) | (simp only [l_c, l_b, l_f, l_g, l_e, l_d, or_false, false_or, O2, not_or]; done) | (simp only [l_c, l_b, l_f, l_g, l_e, l_d, or_false, false_or, not_or]; omega)) only [go_sem, ↓wBk, ↓eA, ↓eB, ↓eS, sT, simprocAttr, e1, e13, e5]))
  ·have hi' : i = l.length := by omega
   subst hi'
   refine hK _ _ ⟨?_, hf⟩
   rw [E8]
  ·have hlt' : i < l.length := by omega
   obtain ⟨b, off, rfl, hr⟩ := (ha.fr hf (fun _ _ _ => by simp)).at hlt'
   have hle := b0q rma (l.take i)
   rw [u6] at hle
   have hsucc := a7B rma l i hlt'
   refine Xf e1 e13 e15 hr @Msg.enc.eq_1 ?_
   (generalize hg : dcd _ = bb; cases bb <;> (first | replace hg := x9 hg | replace hg := o7 hg) <;> (try simp (disch := first | omega | assumption | ((repeat' (first | exact Fr.refl _ _ | assumption | (refine Fr.via (by assumption) ?_ (by intro i hi hm; first | exact hm | exact l_l _ hm | exact absurd hm l_d | (simp only [l_e, l_y, l_d, or_false] at hm ⊢; omega))) | refine Fr.push ?_ _ | (refine Fr.setM ?_ ?_ _; · first | exact l_n | (simp only [l_e, true_or, or_true]; done)) | (refine Fr.setN ?_ ?_ _; · first | omega | (simp only [l_c, l_b]; omega)))); done) | (simp only [l_c, l_b, l_f, l_g, l_e, l_d, or_false, false_or, O2, not_or]; done) | (simp only [l_c, l_b, l_f, l_g, l_e, l_d, or_false, false_or, not_or]; omega)) only [go_sem, ↓wBk, ↓eA, ↓eB, ↓eS, sT, simprocAttr, e1, e13, e14, e15, e5]))
   ·refine hJ _ _ ?_ ?_
    ·refine Xe e1 e13 e14 e5 ?_
     exact ⟨by (exact FRR), i + 1, rfl, by omega, by rw [hsucc, if_neg (by simp [hg])]; rfl⟩
    ·refine Xb e15 ?_
     omega
   ·have hg1 := hg
    (generalize hg : dcd _ = bb; cases bb <;> (first | replace hg := x9 hg | replace hg := o7 hg) <;> (try simp (disch := first | omega | assumption | ((repeat' (first | exact Fr.refl _ _ | assumption | (refine Fr.via (by assumption) ?_ (by intro i hi hm; first | exact hm | exact l_l _ hm | exact absurd hm l_d | (simp only [l_e, l_y, l_d, or_false] at hm ⊢; omega))) | refine Fr.push ?_ _ | (refine Fr.setM ?_ ?_ _; · first | exact l_n | (simp only [l_e, true_or, or_true]; done)) | (refine Fr.setN ?_ ?_ _; · first | omega | (simp only [l_c, l_b]; omega)))); done) | (simp only [l_c, l_b, l_f, l_g, l_e, l_d, or_false, false_or, O2, not_or]; done) | (simp only [l_c, l_b, l_f, l_g, l_e, l_d, or_false, false_or, not_or]; omega)) only [go_sem, ↓wBk, ↓eA, ↓eB, ↓eS, sT, simprocAttr, e1, e13, e14, e15, e5]))
    ·refine hJ _ _ ?_ ?_
     ·refine Xe e1 e13 e14 e5 ?_
      exact ⟨by (exact FRR), i + 1, rfl, by omega, by rw [hsucc, if_pos ⟨hg1, hg⟩]; rfl⟩
     ·refine Xb e15 ?_
      omega
    ·refine hJ _ _ ?_ ?_
     ·refine Xe e1 e13 e14 e5 ?_
      exact ⟨by (exact FRR), i + 1, rfl, by omega, by rw [hsucc, if_neg (by simp [hg])]; rfl⟩
     ·refine Xb e15 ?_
      omega
end Go.Proofs.YtcgbhcgfdcfmaaaGreat.MX
