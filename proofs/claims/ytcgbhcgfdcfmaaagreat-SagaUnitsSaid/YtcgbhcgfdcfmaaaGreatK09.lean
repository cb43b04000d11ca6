import Derived.Test.YtcgbhcgfdcfmaaaGreatK07
import Derived.Test.YtcgbhcgfdcfmaaaGreatK08
namespace Go.Proofs.YtcgbhcgfdcfmaaaGreat.MX
open Go Go.Proofs
set_option linter.unusedSimpArgs false
set_option linter.unusedVariables false
section
def irClone (T sz bytes : Nat) (z : List Value) : MFn := MFn.mk (MCode.seq (MCode.ops [MOper.mk (some 2) (MOp.p (Pure.mov (Opd.c (Value.slice none 0 0)))) none]) (MCode.seq (MCode.seq (MCode.ops [MOper.mk (some 3) (MOp.p (Pure.mov (Opd.t 0))) none, MOper.mk (some 4) (MOp.p (Pure.eq EK.s false (Opd.t 3) (Opd.c (Value.slice none 0 0)))) none]) (MCode.cond (Opd.t 4) (MCode.seq (MCode.ops [MOper.mk (some 2) (MOp.p (Pure.mov (Opd.c (Value.slice none 0 0)))) none]) MCode.ret) MCode.skip)) (MCode.seq (MCode.ops [MOper.mk (some 5) (MOp.e (Eff.bslice T 0 z [])) none, MOper.mk (some 6) (MOp.p (Pure.mov (Opd.t 0))) none, MOper.mk (some 7) (MOp.e (Eff.append T sz bytes z (Opd.t 5) (Opd.t 6))) none, MOper.mk (some 2) (MOp.p (Pure.mov (Opd.t 7))) none]) MCode.ret))) [MRes.tmp 2] 8
section
variable {P : Program} {α : Type} {enc : α → List Value} {T sz bytes : Nat} {z : List Value} {h : Heap} {A : Option Addr} {n c : Nat} {xs : List α}
theorem clone_ok {f : FuncId} (hc : compF P f = some (irClone T sz bytes z)) (hsz : ∀ x, (enc x).length = sz) (h0 : 0 < sz) (hpl : ∀ x, pC (enc x) = true) (hz : z.length = sz)
  (ha : Arr enc sz h A xs) (hn : n = xs.length) (hA : A = none → xs = []) (hroom : xs.length * bytes ≤ 140737488355328) (h63 : xs.length ≤ 9223372036854775807) :
  CallsH P f [.slice A n c] h fun v h' => Own enc sz T h.size h' v xs ∧ Fr h h' [] ∧ (A = none → v = .slice none 0 0) := by
 refine eK hc (l_a rfl) fun K hK => ?_
 refine Xb @irClone.eq_1 ?_
 cases A with
 | none =>
  refine Xa ?_
  exact hK _ _ ⟨.inl ⟨rfl, hA rfl⟩, by (exact FRR), fun _ => rfl⟩
 | some a =>
  refine Xa ?_
  have ho : Own enc sz T h.size (h.push (.cells ([] : List Value).toArray T (0, 0))) (.slice (some ⟨h.size, 0, none⟩) 0 0) ([] : List α) :=
   .inr ⟨h.size, 0, [], rfl, Nat.le_refl _, Nat.le_refl _, by omega, by simpa using blk_push_new (c := []) rfl, by simp⟩
  have ha' : Arr enc sz (h.push (.cells ([] : List Value).toArray T (0, 0))) (some a) xs := ha.fr (M := []) (by (exact FRR)) (fun _ _ _ => by simp)
  refine append_own (ys := xs) hsz h0 hpl hz ho (by simp) (by rw [hn]; rfl) (src_arr hsz ha' hn) (by simpa using hroom) (by simpa using h63) ?_
  intro v' h' ho' hf hb
  refine Xa ?_
  refine hK _ _ ⟨by simpa using ho', ⟨?_, ?_⟩, fun h1 => by cases h1⟩
  ·have := hf.size; simp at this; omega
  ·intro b hb1 _
   rw [hf.same b (by simp; omega) (by simp [blkOf]; omega), Array.getElem?_push, if_neg (by omega)]
def Asks (P : Program) (enc : α → List Value) (h : Heap) (M : List Nat) (fv : Value) (p : α → Bool) : Prop :=
 ∃ F caps, fv = .func (.func F) #[] (List.toArray caps) ∧ okFn P F = true ∧ ∀ x h', Fr h h' M → CallsH P F (.agg (enc x).toArray :: caps) h' fun v h'' => v = .bool (p x) ∧ Fr h' h'' []
theorem Asks.call {fv : Value} {M : List Nat} {p : α → Bool} (ha : Asks P enc h M fv p) {x : α} {h' : Heap} (hf : Fr h h' M) {K : Value → Heap → Prop} {s : Tag h'} {t : Tag K} (hk : ∀ h'', Fr h' h'' [] → K (.bool (p x)) h'') : callvT P fv [.agg (enc x).toArray] h' K s t := by
 obtain ⟨F, caps, rfl, hok, hc⟩ := ha
 simp only [callvT, callvW]
 refine ⟨hok, ?_⟩
 have := hc x h' hf
 simpa using this.mono (fun v h'' ⟨e, f⟩ => e ▸ hk h'' f)
theorem Asks.fr {fv : Value} {M : List Nat} {p : α → Bool} (ha : Asks P enc h M fv p) {h' : Heap} (hf : Fr h h' M) : Asks P enc h' M fv p := by
 obtain ⟨F, caps, rfl, hok, hc⟩ := ha
 exact ⟨F, caps, rfl, hok, fun x h'' hf' => hc x h'' (hf.trans hf')⟩
def idxOf (p : α → Bool) : List α → Int → Int
 | [], _ => -1
 | x :: xs, i => if p x then i else idxOf p xs (i + 1)
theorem idxOf_drop (p : α → Bool) (xs : List α) (i : Nat) (hi : i < xs.length) : idxOf p (xs.drop i) i = if p xs[i] then (i : Int) else idxOf p (xs.drop (i + 1)) ((i + 1 : Nat) : Int) := by
 rw [List.drop_eq_getElem_cons hi]
 rfl
def irIndexFunc (sz : Nat) : MFn := MFn.mk (MCode.seq (MCode.ops [MOper.mk (some 4) (MOp.p (Pure.mov (Opd.c (Value.int IntKind.i64 0)))) none]) (MCode.seq (MCode.seq (MCode.ops [MOper.mk (some 6) (MOp.p (Pure.mov (Opd.t 0))) none, MOper.mk (some 7) (MOp.p (Pure.len false (Opd.t 6))) none, MOper.mk (some 8) (MOp.p (Pure.mov (Opd.c (Value.int IntKind.i64 0)))) none]) (MCode.block 0 (MCode.loop (MCode.seq (MCode.ops [MOper.mk (some 9) (MOp.p (Pure.bin BinOp.lss (Opd.t 8) (Opd.t 7))) none]) (MCode.seq (MCode.cond (Opd.t 9) MCode.skip (MCode.exit 0)) (MCode.seq (MCode.block 1 (MCode.seq (MCode.ops [MOper.mk (some 10) (MOp.p (Pure.mov (Opd.t 8))) none, MOper.mk (some 5) (MOp.p (Pure.mov (Opd.t 10))) none]) (MCode.seq (MCode.ops [MOper.mk (some 11) (MOp.p (Pure.mov (Opd.t 1))) none, MOper.mk (some 12) (MOp.p (Pure.mov (Opd.t 0))) none, MOper.mk (some 13) (MOp.p (Pure.mov (Opd.t 5))) none, MOper.mk (some 14) (MOp.p (Pure.idxS sz (Opd.t 12) (Opd.t 13))) none, MOper.mk (some 15) (MOp.r (Read.loadN sz (Opd.t 14))) none, MOper.mk (some 16) (MOp.e (Eff.callv (Opd.t 11) [Opd.t 15])) none]) (MCode.cond (Opd.t 16) (MCode.seq (MCode.ops [MOper.mk (some 17) (MOp.p (Pure.mov (Opd.t 5))) none, MOper.mk (some 4) (MOp.p (Pure.mov (Opd.t 17))) none]) MCode.ret) MCode.skip)))) (MCode.ops [MOper.mk (some 18) (MOp.p (Pure.bin BinOp.add (Opd.t 8) (Opd.c (Value.int IntKind.i64 1)))) none, MOper.mk (some 8) (MOp.p (Pure.mov (Opd.t 18))) none]))))))) (MCode.seq (MCode.ops [MOper.mk (some 4) (MOp.p (Pure.mov (Opd.c (Value.int IntKind.i64 (-1))))) none]) MCode.ret))) [MRes.tmp 4] 19
theorem indexFunc_ok {f : FuncId} (hc : compF P f = some (irIndexFunc sz)) (ha : Arr enc sz h A xs) (hn : n = xs.length) (h63 : xs.length < 9223372036854775807) {fv : Value} {p : α → Bool} {M : List Nat} (hp : Asks P enc h M fv p) :
  CallsH P f [.slice A n c, fv] h fun v h' => v = .int .i64 (idxOf p xs 0) ∧ Fr h h' [] := by
 subst hn
 refine eK hc (l_a rfl) fun K hK => ?_
 refine Xb @irIndexFunc.eq_1 ?_
 refine lI (fun ρ h' => Fr h h' [] ∧ ρ 0 = .slice A xs.length c ∧ ρ 1 = fv ∧ ρ 7 = .int .i64 xs.length ∧ ∃ i : Nat, ρ 8 = .int .i64 i ∧ i ≤ xs.length ∧ idxOf p (xs.drop i) i = idxOf p xs 0) (fun ρ _ => xs.length - (iv (ρ 8)).toNat) ?_ ?_
 ·refine Xa ?_
  exact ⟨Fr.refl _ _, 0, rfl, Nat.zero_le _, rfl⟩
 ·rintro ρ h' J hJ ⟨hf, e0, e1, e7, i, e8, hi, hx⟩
  refine Xc e8 e7 ?_
  (generalize hg : dcd _ = bb; cases bb <;> (first | replace hg := of_dcd_false hg | replace hg := of_dcd_true hg) <;> (try simp (disch := first | omega | assumption | ((repeat' (first | exact Fr.refl _ _ | assumption | (refine Fr.via (by assumption) ?_ (by intro i hi hm; first | exact hm | exact l_l _ hm | exact absurd hm l_d | (simp only [l_e, l_y, l_d, or_false] at hm ⊢; omega))) | refine Fr.push ?_ _ | (refine Fr.setM ?_ ?_ _; · first | exact l_n | (simp only [l_e, true_or, or_true]; done)) | (refine Fr.setN ?_ ?_ _; · first | omega | (simp only [l_c, l_b]; omega)))); done) | (simp only [l_c, l_b, l_f, l_g, l_e, l_d, or_false, false_or, l_ab, not_or]; done) | (simp only [l_c, l_b, l_f, l_g, l_e, l_d, or_false, false_or, not_or]; omega)) only [go_sem, ↓wBk, ↓eA, ↓eB, ↓eS, sT, simprocAttr, e0, e1, e8]))
  ·have hi' : i = xs.length := by omega
   subst hi'
   refine hK _ _ ⟨?_, hf⟩
   rw [← hx, List.drop_length]
   rfl
  ·have hlt : i < xs.length := by omega
   obtain ⟨b, off, rfl, hr⟩ := (ha.fr hf (fun _ _ _ => by simp)).at hlt
   refine Xe e0 e1 e8 hr ?_
   refine hp.call (hf.mono fun _ _ hm => absurd hm l_d) fun h'' hf2 => ?_
   rw [idxOf_drop p xs i hlt] at hx
   cases hpx : p xs[i]
   ·refine Xe e8 e0 e1 e7 ?_
    rw [hpx] at hx
    refine hJ _ _ ?_ ?_
    ·refine Xd e0 e1 e7 ?_
     exact ⟨hf.trans hf2, i + 1, rfl, by omega, hx⟩
    ·refine Xb e8 ?_
     omega
   ·refine Xa ?_
    rw [hpx] at hx
    exact hK _ _ ⟨by rw [← hx]; rfl, hf.trans hf2⟩
def irDelete (T sz bytes : Nat) (z : List Value) : MFn := MFn.mk (MCode.seq (MCode.ops [MOper.mk (some 6) (MOp.p (Pure.mov (Opd.c (Value.slice none 0 0)))) none]) (MCode.seq (MCode.ops [MOper.mk (some 8) (MOp.p (Pure.mov (Opd.t 0))) none, MOper.mk (some 9) (MOp.p (Pure.mov (Opd.t 1))) none, MOper.mk (some 10) (MOp.p (Pure.mov (Opd.t 2))) none, MOper.mk (some 11) (MOp.p (Pure.mov (Opd.t 0))) none, MOper.mk (some 12) (MOp.p (Pure.len false (Opd.t 11))) none, MOper.mk (some 13) (MOp.p (Pure.cutS sz (Opd.t 8) (some (Opd.t 9)) (some (Opd.t 10)) (some (Opd.t 12)))) none]) (MCode.seq (MCode.seq (MCode.ops [MOper.mk (some 14) (MOp.p (Pure.mov (Opd.t 1))) none, MOper.mk (some 15) (MOp.p (Pure.mov (Opd.t 2))) none, MOper.mk (some 16) (MOp.p (Pure.bin BinOp.eql (Opd.t 14) (Opd.t 15))) none]) (MCode.cond (Opd.t 16) (MCode.seq (MCode.ops [MOper.mk (some 17) (MOp.p (Pure.mov (Opd.t 0))) none, MOper.mk (some 6) (MOp.p (Pure.mov (Opd.t 17))) none]) MCode.ret) MCode.skip)) (MCode.seq (MCode.ops [MOper.mk (some 18) (MOp.p (Pure.mov (Opd.t 0))) none, MOper.mk (some 19) (MOp.p (Pure.len false (Opd.t 18))) none, MOper.mk (some 7) (MOp.p (Pure.mov (Opd.t 19))) none]) (MCode.seq (MCode.draw [MOper.mk (some 20) (MOp.p (Pure.mov (Opd.t 0))) none, MOper.mk (some 21) (MOp.p (Pure.mov (Opd.t 1))) none, MOper.mk (some 22) (MOp.p (Pure.cutS sz (Opd.t 20) none (some (Opd.t 21)) none)) none, MOper.mk (some 23) (MOp.p (Pure.mov (Opd.t 0))) none, MOper.mk (some 24) (MOp.p (Pure.mov (Opd.t 2))) none, MOper.mk (some 25) (MOp.p (Pure.cutS sz (Opd.t 23) (some (Opd.t 24)) none none)) none, MOper.mk (some 26) (MOp.e (Eff.append T sz bytes z (Opd.t 22) (Opd.t 25))) none, MOper.mk (some 0) (MOp.p (Pure.mov (Opd.t 26))) none] (Sch.take 0 (Sch.take 1 (Sch.take 2 (Sch.take 3 (Sch.take 4 (Sch.take 5 (Sch.alt 6 false (Sch.take 7 Sch.done) Sch.no)))))))) (MCode.seq (MCode.ops [MOper.mk (some 27) (MOp.p (Pure.mov (Opd.t 0))) none, MOper.mk (some 28) (MOp.p (Pure.mov (Opd.t 0))) none, MOper.mk (some 29) (MOp.p (Pure.len false (Opd.t 28))) none, MOper.mk (some 30) (MOp.p (Pure.mov (Opd.t 7))) none, MOper.mk (some 31) (MOp.p (Pure.cutS sz (Opd.t 27) (some (Opd.t 29)) (some (Opd.t 30)) none)) none, MOper.mk none (MOp.e (Eff.clear sz z (Opd.t 31))) none]) (MCode.seq (MCode.ops [MOper.mk (some 32) (MOp.p (Pure.mov (Opd.t 0))) none, MOper.mk (some 6) (MOp.p (Pure.mov (Opd.t 32))) none]) MCode.ret))))))) [MRes.tmp 6] 33
theorem delete_ok {base : Nat} {f : FuncId} (hc : compF P f = some (irDelete T sz bytes z)) (hsz : ∀ x, (enc x).length = sz) (h0 : 0 < sz) (hpl : ∀ x, pC (enc x) = true) (hz : z.length = sz) (hzp : ∀ n, pC (zerosL z n) = true)
  {v : Value} (ho : Own enc sz T base h v xs) {i j : Nat} (hij : i ≤ j) (hj : j ≤ xs.length) (hroom : xs.length < 1000000000) :
  CallsH P f [v, .int .i64 i, .int .i64 j] h fun v' h' => Own enc sz T base h' v' (xs.take i ++ xs.drop j) ∧ Fr h h' (blkOf v) ∧ ∀ b ∈ blkOf v', b ∈ blkOf v := by
 rcases ho with ⟨rfl, rfl⟩ | ⟨b, cap, cs, rfl, hb, hle, h63', hblk, hl⟩
 ·simp only [l_g, Nat.le_zero] at hj
  subst hj
  obtain rfl : i = 0 := by omega
  refine eK hc (l_a rfl) fun K hK => ?_
  refine Xb @irDelete.eq_1 ?_
  exact hK _ _ ⟨.inl ⟨rfl, rfl⟩, Fr.refl _ _, fun b hb => hb⟩
 ·refine eK hc (l_a rfl) fun K hK => ?_
  by_cases hi0 : (i : Int) < xs.length
  case neg =>
   obtain rfl : i = xs.length := by omega
   obtain rfl : j = xs.length := by omega
   refine Xb @irDelete.eq_1 ?_
   exact hK _ _ ⟨by rw [List.take_append_drop]; exact .inr ⟨b, cap, cs, rfl, hb, hle, h63', hblk, hl⟩, Fr.refl _ _, fun b hb => hb⟩
  refine Xb @irDelete.eq_1 ?_
  (generalize hg : dcd _ = bb; cases bb <;> (first | replace hg := of_dcd_false hg | replace hg := of_dcd_true hg) <;> (try simp (disch := first | omega | assumption | ((repeat' (first | exact Fr.refl _ _ | assumption | (refine Fr.via (by assumption) ?_ (by intro i hi hm; first | exact hm | exact l_l _ hm | exact absurd hm l_d | (simp only [l_e, l_y, l_d, or_false] at hm ⊢; omega))) | refine Fr.push ?_ _ | (refine Fr.setM ?_ ?_ _; · first | exact l_n | (simp only [l_e, true_or, or_true]; done)) | (refine Fr.setN ?_ ?_ _; · first | omega | (simp only [l_c, l_b]; omega)))); done) | (simp only [l_c, l_b, l_f, l_g, l_e, l_d, or_false, false_or, l_ab, not_or]; done) | (simp only [l_c, l_b, l_f, l_g, l_e, l_d, or_false, false_or, not_or]; omega)) only [go_sem, ↓wBk, ↓eA, ↓eB, ↓eS, sT, simprocAttr]))
  ·have hlt : i < j := by omega
   have hlen : ∀ k, k ≤ xs.length → ((xs.take k).flatMap enc).length = k * sz := fun k hk => by rw [fL hsz, l_ad, Nat.min_eq_left hk]
   have hdl : ∀ k, ((xs.drop k).flatMap enc).length = (xs.length - k) * sz := fun k => by rw [fL hsz, List.length_drop]
   have hxl : (xs.flatMap enc).length = xs.length * sz := fL hsz xs
   have hmj : j * sz + (xs.length - j) * sz = xs.length * sz := by rw [← Nat.add_mul]; congr 1; omega
   have hmi : i * sz + (xs.length - j) * sz = (i + (xs.length - j)) * sz := (Nat.add_mul _ _ _).symm
   have hcap : xs.length * sz ≤ cap * sz := Nat.mul_le_mul_right _ hle
   have hnew : (i + (xs.length - j)) * sz + (j - i) * sz = xs.length * sz := by rw [← Nat.add_mul]; congr 1; omega
   have hsrc : ∀ a c', (a = some ⟨b, j * sz, none⟩ ∨ xs.length - j = 0) → srcCells h sz (xs.length - j) (.slice a (xs.length - j) c') = some ((xs.drop j).flatMap enc) := by
    intro a c' ha
    rcases ha with rfl | ha
    ·refine srcCells_rd rfl ?_
     rw [rdN_blk hblk (by rw [hl]; omega)]
     congr 1
     rw [flat_split enc xs j, l_q, show j * sz = ((xs.take j).flatMap enc).length from (hlen j hj).symm, List.drop_left, ← hdl j, List.take_left]
    ·have : xs.drop j = [] := List.drop_eq_nil_of_le (by omega)
     rw [ha, this]
     cases a <;> simp [srcCells]
   have hcells : splice (xs.flatMap enc ++ cs) (0 + i * sz) ((xs.drop j).flatMap enc) = ((xs.take i ++ xs.drop j).flatMap enc) ++ (((xs.drop i).flatMap enc ++ cs).drop ((xs.length - j) * sz)) := by
    rw [flat_split enc xs i, l_q, splice_append _ _ [] _ (by rw [hlen i (by omega)]; omega) _ (by rw [hdl j, l_m, hdl i]; have : (xs.length - j) * sz ≤ (xs.length - i) * sz := Nat.mul_le_mul_right _ (by omega); omega), List.flatMap_append, hdl j]
   have hres : ∀ h2, blk h2 b = some (splice (splice (xs.flatMap enc ++ cs) (0 + i * sz) ((xs.drop j).flatMap enc)) (0 + (i + (xs.length - j)) * sz) (zerosL z (j - i)), T, (0, 0)) → Own enc sz T base h2 (.slice (some ⟨b, 0, none⟩) (i + (xs.length - j)) cap) (xs.take i ++ xs.drop j) := by
    intro h2 hb2
    have hl2 : (xs.take i ++ xs.drop j).length = i + (xs.length - j) := by simp; omega
    have hf2 : ((xs.take i ++ xs.drop j).flatMap enc).length = (i + (xs.length - j)) * sz := by rw [fL hsz, hl2]
    have hzl : (zerosL z (j - i)).length = (j - i) * sz := by rw [zerosL_length, hz]
    have hrest : (((xs.drop i).flatMap enc ++ cs).drop ((xs.length - j) * sz)).length + (i + (xs.length - j)) * sz = cap * sz := by
     have h1 := congrArg List.length hcells
     rw [splice_length, hl, l_m, hf2] at h1
     omega
    rw [hcells, Nat.zero_add, ← hf2, splice_append _ _ [] _ rfl _ (by rw [hzl]; omega), l_q] at hb2
    refine .inr ⟨b, cap, _, by rw [hl2], hb, by rw [hl2]; omega, h63', hb2, ?_⟩
    rw [l_m, hf2, l_m, hzl, List.length_drop]
    omega
   refine draw_fr [b] ?_
   by_cases hjc : j < cap
   ·refine Xa ?_
    refine app_fit (n := i) (m := xs.length - j) (c := cap) (off := 0) (new := (xs.drop j).flatMap enc) rfl (hsrc _ _ (.inl rfl)) (by omega) hblk (by rw [hl, hdl j]; omega) (Nat.le_refl _) (flat_plain hpl _) ?_
    intro h1 hb1 hf1 hs1
    have e : xs.length - (i + (xs.length - j)) = j - i := by omega
    have e' : (i + (xs.length - j)) * sz = 0 + (i + (xs.length - j)) * sz := by omega
    refine Xc hf1 e ?_
    rw [e']
    refine clear_fit hb1 (by rw [splice_length, hl, zerosL_length, hz]; omega) (Nat.le_refl _) (hzp _) ?_
    intro h2 hb2 hf2 hs2
    refine Xa ?_
    exact hK _ _ ⟨hres _ hb2, hf1.trans hf2, fun b hb => hb⟩
   ·obtain rfl : j = cap := by omega
    obtain rfl : xs.length = j := by omega
    refine Xa ?_
    have hm0 : xs.length - xs.length = 0 := by omega
    rw [hm0] at hsrc hres hcells hnew hmi
    refine app_fit (n := i) (m := 0) (c := xs.length) (off := 0) (new := (xs.drop xs.length).flatMap enc) rfl (hsrc _ _ (.inr rfl)) (by omega) hblk (by rw [hl, hdl]; omega) (Nat.le_refl _) (flat_plain hpl _) ?_
    intro h1 hb1 hf1 hs1
    have e' : i * sz = 0 + (i + 0) * sz := by omega
    refine Xb hf1 ?_
    rw [e']
    refine clear_fit hb1 (by rw [splice_length, hl, zerosL_length, hz]; omega) (Nat.le_refl _) (hzp _) ?_
    intro h2 hb2 hf2 hs2
    refine Xa ?_
    exact hK _ _ ⟨hres _ hb2, hf1.trans hf2, fun b hb => hb⟩
  ·have : i = j := by omega
   subst this
   exact hK _ _ ⟨by rw [List.take_append_drop]; exact .inr ⟨b, cap, cs, rfl, hb, hle, h63', hblk, hl⟩, Fr.refl _ _, fun b hb => hb⟩
theorem flat_set (hsz : ∀ x, (enc x).length = sz) : ∀ (ys : List α) (i : Nat) (y : α) (cs : List Value), i < ys.length → splice (ys.flatMap enc ++ cs) (i * sz) (enc y) = (ys.set i y).flatMap enc ++ cs := by
 intro ys i y cs hi
 have hlt : ((ys.take i).flatMap enc).length = i * sz := by rw [fL hsz, l_ad, Nat.min_eq_left (by omega)]
 have h1 : ys.flatMap enc = (ys.take i).flatMap enc ++ (enc ys[i] ++ (ys.drop (i + 1)).flatMap enc) := by
  rw [flat_split enc ys i, List.drop_eq_getElem_cons hi, List.flatMap_cons]
 rw [h1, l_q, l_q, ← hlt, splice_at _ _ _ _ (by rw [hsz, hsz]), List.set_eq_take_append_cons_drop, if_pos hi]
 simp
theorem idxOf_spec (p : α → Bool) : ∀ (xs : List α) (k : Nat), (idxOf p xs k = -1 ∧ ∀ x ∈ xs, p x = false) ∨ ∃ i : Nat, idxOf p xs k = ((k + i : Nat) : Int) ∧ i < xs.length ∧ (∀ x ∈ xs.take i, p x = false) ∧ ∀ x, xs[i]? = some x → p x = true
 | [], k => .inl ⟨rfl, fun x hx => by cases hx⟩
 | x :: xs, k => by
  simp only [idxOf]
  cases hp : p x
  ·simp only [Bool.false_eq_true, if_false]
   rw [show (k : Int) + 1 = ((k + 1 : Nat) : Int) by omega]
   rcases idxOf_spec p xs (k + 1) with ⟨h1, h2⟩ | ⟨i, h1, h2, h3, h4⟩
   ·exact .inl ⟨h1, fun y hy => by rcases List.mem_cons.1 hy with rfl | hy; exact hp; exact h2 y hy⟩
   ·refine .inr ⟨i + 1, by rw [h1]; congr 1; omega, by simpa using h2, fun y hy => ?_, by simpa using h4⟩
    rw [l_aq] at hy
    rcases List.mem_cons.1 hy with rfl | hy
    ·exact hp
    ·exact h3 y hy
  ·exact .inr ⟨0, by simp, by simp, by simp, by simp [hp]⟩
def irDeleteFunc (fi T sz : Nat) (z : List Value) : MFn := MFn.mk (MCode.seq (MCode.ops [MOper.mk (some 4) (MOp.p (Pure.mov (Opd.c (Value.slice none 0 0)))) none]) (MCode.seq (MCode.ops [MOper.mk (some 8) (MOp.p (Pure.mov (Opd.t 0))) none, MOper.mk (some 9) (MOp.p (Pure.mov (Opd.t 1))) none, MOper.mk (some 10) (MOp.e (Eff.call fi [Opd.t 8, Opd.t 9])) none, MOper.mk (some 5) (MOp.p (Pure.mov (Opd.t 10))) none]) (MCode.seq (MCode.seq (MCode.ops [MOper.mk (some 11) (MOp.p (Pure.mov (Opd.t 5))) none, MOper.mk (some 12) (MOp.p (Pure.bin BinOp.eql (Opd.t 11) (Opd.c (Value.int IntKind.i64 (-1))))) none]) (MCode.cond (Opd.t 12) (MCode.seq (MCode.ops [MOper.mk (some 13) (MOp.p (Pure.mov (Opd.t 0))) none, MOper.mk (some 4) (MOp.p (Pure.mov (Opd.t 13))) none]) MCode.ret) MCode.skip)) (MCode.seq (MCode.seq (MCode.ops [MOper.mk (some 14) (MOp.p (Pure.mov (Opd.t 5))) none, MOper.mk (some 15) (MOp.p (Pure.bin BinOp.add (Opd.t 14) (Opd.c (Value.int IntKind.i64 1)))) none, MOper.mk (some 6) (MOp.p (Pure.mov (Opd.t 15))) none]) (MCode.block 0 (MCode.loop (MCode.seq (MCode.seq (MCode.ops [MOper.mk (some 16) (MOp.p (Pure.mov (Opd.t 6))) none, MOper.mk (some 17) (MOp.p (Pure.mov (Opd.t 0))) none, MOper.mk (some 18) (MOp.p (Pure.len false (Opd.t 17))) none, MOper.mk (some 19) (MOp.p (Pure.bin BinOp.lss (Opd.t 16) (Opd.t 18))) none]) (MCode.cond (Opd.t 19) MCode.skip (MCode.exit 0))) (MCode.seq (MCode.block 1 (MCode.seq (MCode.ops [MOper.mk (some 22) (MOp.p (Pure.mov (Opd.t 0))) none, MOper.mk (some 23) (MOp.p (Pure.mov (Opd.t 6))) none, MOper.mk (some 24) (MOp.p (Pure.idxS sz (Opd.t 22) (Opd.t 23))) none, MOper.mk (some 25) (MOp.r (Read.loadN sz (Opd.t 24))) none, MOper.mk (some 7) (MOp.e (Eff.alloc T z)) none, MOper.mk none (MOp.e (Eff.store sz (Opd.t 7) (Opd.t 25))) none]) (MCode.seq (MCode.ops [MOper.mk (some 26) (MOp.p (Pure.mov (Opd.t 1))) none, MOper.mk (some 27) (MOp.r (Read.loadN sz (Opd.t 7))) none, MOper.mk (some 28) (MOp.e (Eff.callv (Opd.t 26) [Opd.t 27])) none, MOper.mk (some 29) (MOp.p (Pure.un UnOp.not (Opd.t 28))) none]) (MCode.cond (Opd.t 29) (MCode.seq (MCode.ops [MOper.mk (some 30) (MOp.p (Pure.mov (Opd.t 0))) none, MOper.mk (some 31) (MOp.p (Pure.mov (Opd.t 5))) none, MOper.mk (some 32) (MOp.r (Read.loadN sz (Opd.t 7))) none, MOper.mk (some 33) (MOp.p (Pure.idxS sz (Opd.t 30) (Opd.t 31))) none, MOper.mk none (MOp.e (Eff.store sz (Opd.t 33) (Opd.t 32))) none]) (MCode.ops [MOper.mk (some 34) (MOp.p (Pure.mov (Opd.t 5))) none, MOper.mk (some 35) (MOp.p (Pure.bin BinOp.add (Opd.t 34) (Opd.c (Value.int IntKind.i64 1)))) none, MOper.mk (some 5) (MOp.p (Pure.mov (Opd.t 35))) none])) MCode.skip)))) (MCode.ops [MOper.mk (some 20) (MOp.p (Pure.mov (Opd.t 6))) none, MOper.mk (some 21) (MOp.p (Pure.bin BinOp.add (Opd.t 20) (Opd.c (Value.int IntKind.i64 1)))) none, MOper.mk (some 6) (MOp.p (Pure.mov (Opd.t 21))) none])))))) (MCode.seq (MCode.ops [MOper.mk (some 36) (MOp.p (Pure.mov (Opd.t 0))) none, MOper.mk (some 37) (MOp.p (Pure.mov (Opd.t 5))) none, MOper.mk (some 38) (MOp.p (Pure.cutS sz (Opd.t 36) (some (Opd.t 37)) none none)) none, MOper.mk none (MOp.e (Eff.clear sz z (Opd.t 38))) none]) (MCode.seq (MCode.ops [MOper.mk (some 39) (MOp.p (Pure.mov (Opd.t 0))) none, MOper.mk (some 40) (MOp.p (Pure.mov (Opd.t 5))) none, MOper.mk (some 41) (MOp.p (Pure.cutS sz (Opd.t 39) none (some (Opd.t 40)) none)) none, MOper.mk (some 4) (MOp.p (Pure.mov (Opd.t 41))) none]) MCode.ret)))))) [MRes.tmp 4] 42
theorem deleteFunc_ok {base : Nat} {f fi : FuncId} (hc : compF P f = some (irDeleteFunc fi T sz z)) (hci : compF P fi = some (irIndexFunc sz)) (hsz : ∀ x, (enc x).length = sz) (h0 : 0 < sz) (hpl : ∀ x, pC (enc x) = true) (hz : z.length = sz) (hzp : ∀ n, pC (zerosL z n) = true)
  {v : Value} (ho : Own enc sz T base h v xs) (hroom : xs.length < 1000000000) {fv : Value} {p : α → Bool} (hp : Asks P enc h (blkOf v) fv p) :
  CallsH P f [v, fv] h fun v' h' => Own enc sz T base h' v' (xs.filter fun x => !p x) ∧ Fr h h' (blkOf v) ∧ ∀ b ∈ blkOf v', b ∈ blkOf v := by
 obtain ⟨A, c, rfl⟩ := ho.slice
 refine eK hc (l_a rfl) fun K hK => ?_
 refine Xb @irDeleteFunc.eq_1 ?_
 refine cI (indexFunc_ok hci (ho.arr hsz).1 rfl (by omega) hp) ?_
 rintro _ h1 ⟨rfl, hf1⟩
 have ho1 := ho.fr hf1 (fun _ _ => by simp)
 rcases idxOf_spec p xs 0 with ⟨hx, hall⟩ | ⟨i, hx, hi, hbef, hat⟩
 ·rw [show idxOf p xs 0 = -1 from hx]
  refine Xa ?_
  refine hK _ _ ⟨?_, hf1.mono fun _ _ hm => absurd hm l_d, fun b hb => hb⟩
  rw [List.filter_eq_self.2 fun x hx => by rw [hall x hx]; rfl]
  exact ho1
 ·rw [show idxOf p xs 0 = (i : Int) by simpa using hx]
  rcases ho1 with ⟨hv, rfl⟩ | ⟨b, cap, cs, hv, hb, hle, h63', hblk, hl⟩
  ·simp at hi
  injection hv with e1 _ e3
  subst e1 e3
  have hrow : ∀ (h' : Heap) (ys : List α), blk h' b = some (ys.flatMap enc ++ cs, T, (0, 0)) → ys.length = xs.length → ∀ k (hk : k < ys.length), rdN h' b (k * sz) sz = some (enc ys[k]) := by
   intro h' ys hb' hly k hk
   have h1 : (k + 1) * sz ≤ c * sz := Nat.mul_le_mul_right _ (by omega)
   rw [Nat.succ_mul] at h1
   have h2 : (ys.flatMap enc ++ cs).length = c * sz := by rw [← hl, l_m, l_m, fL hsz, fL hsz, hly]
   rw [rdN_blk hb' (by rw [h2]; exact h1), flat_get hsz ys cs k hk]
  have hbl : blkOf (.slice (some ⟨b, 0, none⟩) xs.length c) = [b] := rfl
  rw [hbl] at hp hK
  have hf1' : Fr h h1 [b] := hf1.mono fun _ _ hm => absurd hm l_d
  refine Xa ?_
  refine lI (fun ρ h' => Fr h h' [b] ∧ ρ 0 = .slice (some ⟨b, 0, none⟩) xs.length c ∧ ρ 1 = fv ∧ ∃ (ys : List α) (i j : Nat), ρ 5 = .int .i64 i ∧ ρ 6 = .int .i64 j ∧ blk h' b = some (ys.flatMap enc ++ cs, T, (0, 0)) ∧ ys.length = xs.length ∧ i < j ∧ j ≤ xs.length ∧
    ys.take i = (xs.take j).filter (fun x => !p x) ∧ ys.drop j = xs.drop j) (fun ρ _ => xs.length - (iv (ρ 6)).toNat) ?_ ?_
  ·refine Xa ?_
   refine ⟨hf1', xs, i, i + 1, rfl, rfl, hblk, rfl, by omega, by omega, ?_, rfl⟩
   rw [l_t hi, List.filter_append, List.filter_eq_self.2 fun x hx => by rw [hbef x hx]; rfl]
   have := hat xs[i] (l_r hi)
   simp [this]
  ·rintro ρ h' J hJ ⟨hf, e0, e1, ys, i, j, e5, e6, hb', hly, hij, hj, hta, hdr⟩
   have hltb := blk_lt hb'
   have hszh := hf.size
   refine Xc e0 e6 ?_
   (generalize hg : dcd _ = bb; cases bb <;> (first | replace hg := of_dcd_false hg | replace hg := of_dcd_true hg) <;> (try simp (disch := first | omega | assumption | ((repeat' (first | exact Fr.refl _ _ | assumption | (refine Fr.via (by assumption) ?_ (by intro i hi hm; first | exact hm | exact l_l _ hm | exact absurd hm l_d | (simp only [l_e, l_y, l_d, or_false] at hm ⊢; omega))) | refine Fr.push ?_ _ | (refine Fr.setM ?_ ?_ _; · first | exact l_n | (simp only [l_e, true_or, or_true]; done)) | (refine Fr.setN ?_ ?_ _; · first | omega | (simp only [l_c, l_b]; omega)))); done) | (simp only [l_c, l_b, l_f, l_g, l_e, l_d, or_false, false_or, l_ab, not_or]; done) | (simp only [l_c, l_b, l_f, l_g, l_e, l_d, or_false, false_or, not_or]; omega)) only [go_sem, ↓wBk, ↓eA, ↓eB, ↓eS, sT, simprocAttr, e0, e1, e5, e6]))
   ·have hjn : j = xs.length := by omega
    subst hjn
    have hl2 : (ys.flatMap enc ++ cs).length = c * sz := by rw [← hl, l_m, l_m, fL hsz, fL hsz, hly]
    rw [l_aj] at hta
    have hzl : (zerosL z (xs.length - i)).length = (xs.length - i) * sz := by rw [zerosL_length, hz]
    have hmul : i * sz + (xs.length - i) * sz = xs.length * sz := by rw [← Nat.add_mul]; congr 1; omega
    have hcap : xs.length * sz ≤ c * sz := Nat.mul_le_mul_right _ hle
    have hlt' : ((ys.take i).flatMap enc).length = i * sz := by rw [fL hsz, l_ad, Nat.min_eq_left (by omega)]
    refine clear_fit hb' (by rw [hl2, hzl]; omega) (Nat.le_refl _) (hzp _) ?_
    intro h2 hb2 hf2 hs2
    refine Xc e0 e5 ?_
    refine hK _ _ ⟨?_, hf.trans hf2, fun b hb => hb⟩
    rw [← hta]
    rw [flat_split enc ys i, l_q, splice_append _ _ [] _ hlt'.symm _ (by rw [hzl, l_m, fL hsz, List.length_drop, hly]; omega), l_q] at hb2
    have hln : (ys.take i).length = i := by rw [l_ad, Nat.min_eq_left (by omega)]
    refine .inr ⟨b, c, _, by rw [hln], hb, by rw [hln]; omega, h63', hb2, ?_⟩
    simp only [l_m, hlt', hzl, List.length_drop, fL hsz, hly] at hl ⊢
    omega
   ·have hjlt : j < ys.length := by omega
    have hr := hrow h' ys hb' hly j hjlt
    have hlj : (enc ys[j]).length = sz := hsz _
    have htk : ∀ y, List.take sz (enc y) = enc y := fun y => List.take_of_length_le (by rw [hsz]; exact Nat.le_refl _)
    have hsp : ∀ y, splice z 0 (enc y) = enc y := fun y => by
     have := splice_append [] z [] 0 rfl (enc y) (by rw [hsz, hz]; exact Nat.le_refl _)
     rw [l_k, l_k] at this
     rw [this, List.drop_of_length_le (by rw [hsz, hz]; exact Nat.le_refl _), l_am]
    have hxj : ys[j] = xs[j] := by
     have h3 := congrArg (fun l => l[0]?) hdr
     simp only [List.getElem?_drop, Nat.add_zero] at h3
     rw [l_r hjlt, l_r (by omega)] at h3
     exact Option.some.inj h3
    refine Xi e0 e1 e5 e6 hr hb' hsz (Pd hpl hsp htk) ?_
    refine hp.call (by (exact FRR)) fun h2 hf2 => ?_
    have hsz2 := hf2.size
    simp only [l_c, l_b] at hsz2
    have hri : i * sz + sz ≤ (ys.flatMap enc ++ cs).length := by
     have h5 : (i + 1) * sz ≤ ys.length * sz := Nat.mul_le_mul_right _ (by omega)
     rw [Nat.succ_mul] at h5
     rw [l_m, fL hsz]
     omega
    cases hpj : p ys[j]
    ·refine Xi e0 e1 e5 e6 hr hb' hsz (Pf hpl hsp htk @hf2.blk @hf2.rdN) ?_
     refine hJ _ _ ?_ ?_
     ·refine Xf e0 e1 e5 @hf2.blk hb' ?_
      rw [flat_set hsz ys i ys[j] cs (by omega)]
      refine ⟨by (exact FRR), ys.set i ys[j], i + 1, j + 1, rfl, rfl, rfl, by simpa using hly, by omega, by omega, ?_, ?_⟩
      ·rw [l_t (by simp; omega), List.take_set_of_le (Nat.le_refl _), hta, List.getElem_set_self, l_t (i := j) (by omega), List.filter_append]
       simp [← hxj, hpj]
      ·rw [List.drop_set_of_lt (by omega), ← List.drop_drop, hdr, List.drop_drop]
     ·refine Xb e6 ?_
      omega
    ·refine Xe e0 e1 e5 e6 ?_
     refine hJ _ _ ?_ ?_
     ·refine Xf e0 e1 e5 @hf2.blk hb' ?_
      refine ⟨by (exact FRR), ys, i, j + 1, rfl, rfl, rfl, hly, by omega, by omega, ?_, ?_⟩
      ·rw [hta, l_t (by omega), List.filter_append]
       simp [← hxj, hpj]
      ·rw [← List.drop_drop, hdr, List.drop_drop]
     ·refine Xb e6 ?_
      omega
end
end
theorem zplain : ∀ n, pC (zerosL [Value.int IntKind.i64 0, Value.int IntKind.i64 0, Value.int IntKind.i64 0, Value.int IntKind.i64 0, Value.int IntKind.i64 0, Value.int IntKind.i64 0] n) = true
 | 0 => rfl
 | n + 1 => by simp only [zerosL, l_j, l_k, plain_int, zplain n]
theorem CloneMsg_ok {h : Heap} {A : Option Addr} {n c : Nat} {xs : List Msg} (ha : Arr Msg.enc 6 h A xs) (hn : n = xs.length) (hA : A = none → xs = []) (hl : xs.length < 1000000000) :
  CallsH Tryz.prog 59 [.slice A n c] h fun v h' => Own Msg.enc 6 44 h.size h' v xs ∧ Fr h h' [] ∧ (A = none → v = .slice none 0 0) :=
 clone_ok (T := 44) (sz := 6) (bytes := 48) i59.2 enc_len (by omega) enc_plain rfl ha hn hA (by omega) (by omega)
theorem Own.nilA {α : Type} {enc : α → List Value} {sz T base : Nat} {h : Heap} {A : Option Addr} {n c : Nat} {xs : List α} (ho : Own enc sz T base h (.slice A n c) xs) : A = none → xs = [] := by
 rintro rfl
 rcases ho with ⟨hv, rfl⟩ | ⟨b, cap, cs, hv, _⟩
 ·rfl
 ·cases hv
theorem IsOb.fr {base : Nat} {h h' : Heap} {o : Nat} {s : Value} {next : Int} {l : List Msg} {M : List Nat} (hi : IsOb base h o s next l) (hf : Fr h h' M) (hm : ∀ b, b = o ∨ b ∈ blkOf s → b ∉ M) : IsOb base h' o s next l :=
 ⟨by rw [hf.blk hi.lt (hm _ (.inl rfl))]; exact hi.blk, hi.ge, hi.own.fr hf fun b hb => hm b (.inr hb), hi.apart⟩
def waitsOf (rma : Int) (l : List Msg) : Nat := (l.filter fun m => decide (m.rma = rma ∧ m.kind ≠ 1)).length
theorem heardAsk (key : Int) {h : Heap} {k : Nat} {M : List Nat} (hk : rd1 h (.pointer (some ⟨k, 0, none⟩)) = some (.int .i64 key)) (hlt : k < h.size) (hm : k ∉ M) :
  Asks Tryz.prog Msg.enc h M (.func (.func 144) #[] (List.toArray [.pointer (some ⟨k, 0, none⟩)])) fun m => decide (m.key = key) := by
 refine ⟨_, _, rfl, ok_outbox_Outbox_Heard_1, fun x h' hf => ?_⟩
 have h1 : rd1 h' (.pointer (some ⟨k, 0, none⟩)) = some (.int .i64 key) := by rw [hf.rd1 hlt hm]; exact hk
 have := hf.size
 refine EN i144.eq_1 fun K hK => ?_
 refine Xa ?_
 refine Xd h1 @Msg.enc.eq_1 @dcd_eq ?_
 refine hK _ _ ⟨rfl, by (exact FRR)⟩
theorem dropAsk (rma kind : Int) {h : Heap} {k1 k2 : Nat} {M : List Nat} (hk1 : rd1 h (.pointer (some ⟨k1, 0, none⟩)) = some (.int .i64 rma)) (hk2 : rd1 h (.pointer (some ⟨k2, 0, none⟩)) = some (.int .i64 kind)) (hlt1 : k1 < h.size) (hlt2 : k2 < h.size) (hm1 : k1 ∉ M) (hm2 : k2 ∉ M) :
  Asks Tryz.prog Msg.enc h M (.func (.func 129) #[] (List.toArray [.pointer (some ⟨k1, 0, none⟩), .pointer (some ⟨k2, 0, none⟩)])) fun m => decide (m.rma = rma ∧ m.kind = kind) := by
 refine ⟨_, _, rfl, ok_outbox_Outbox_Drop_1, fun x h' hf => ?_⟩
 have h1 : rd1 h' (.pointer (some ⟨k1, 0, none⟩)) = some (.int .i64 rma) := by rw [hf.rd1 hlt1 hm1]; exact hk1
 have h2 : rd1 h' (.pointer (some ⟨k2, 0, none⟩)) = some (.int .i64 kind) := by rw [hf.rd1 hlt2 hm2]; exact hk2
 have := hf.size
 refine EN i129.eq_1 fun K hK => ?_
 refine Xa ?_
 refine Xd h1 h2 @Msg.enc.eq_1 ?_
 (generalize hg : dcd _ = bb; cases bb <;> (first | replace hg := of_dcd_false hg | replace hg := of_dcd_true hg) <;> (try simp (disch := first | omega | assumption | ((repeat' (first | exact Fr.refl _ _ | assumption | (refine Fr.via (by assumption) ?_ (by intro i hi hm; first | exact hm | exact l_l _ hm | exact absurd hm l_d | (simp only [l_e, l_y, l_d, or_false] at hm ⊢; omega))) | refine Fr.push ?_ _ | (refine Fr.setM ?_ ?_ _; · first | exact l_n | (simp only [l_e, true_or, or_true]; done)) | (refine Fr.setN ?_ ?_ _; · first | omega | (simp only [l_c, l_b]; omega)))); done) | (simp only [l_c, l_b, l_f, l_g, l_e, l_d, or_false, false_or, l_ab, not_or]; done) | (simp only [l_c, l_b, l_f, l_g, l_e, l_d, or_false, false_or, not_or]; omega)) only [go_sem, ↓wBk, ↓eA, ↓eB, ↓eS, sT, simprocAttr, h1, h2, Msg.enc]))
 ·refine hK _ _ ⟨by simp [hg], by (exact FRR)⟩
 ·refine hK _ _ ⟨by simp [hg, dcd_eq], by (exact FRR)⟩
theorem Heard_ok (key : Int) {base : Nat} {h : Heap} {o : Nat} {s : Value} {next : Int} {l : List Msg} (hi : IsOb base h o s next l) (hl : l.length < 1000000) :
  CallsH Tryz.prog 97 [.pointer (some ⟨o, 0, none⟩), .int .i64 key] h fun v h' =>
   ((idxOf (fun m : Msg => decide (m.key = key)) l 0 = -1 ∧ v = .tuple #[.agg Msg.zero.enc.toArray, .bool false] ∧ IsOb base h' o s next l) ∨
    ∃ i : Nat, ∃ hil : i < l.length, idxOf (fun m : Msg => decide (m.key = key)) l 0 = i ∧ v = .tuple #[.agg l[i].enc.toArray, .bool true] ∧ ∃ s', IsOb base h' o s' next (l.take i ++ l.drop (i + 1)) ∧ ∀ b ∈ blkOf s', b ∈ blkOf s) ∧ Fr h h' (o :: blkOf s) := by
 have hlt := hi.lt
 have hap := hi.apart
 have hge := hi.ge
 have hown := hi.own
 have hs1 : h.size ∉ blkOf s := fun hm => by have := (hi.own.lt _ hm).1; omega
 have hs2 : h.size + 1 ∉ blkOf s := fun hm => by have := (hi.own.lt _ hm).1; omega
 obtain ⟨A, c, rfl⟩ := hi.own.slice
 refine EN i97.eq_1 fun K hK => ?_
 (refine Xa ?_; try exact ⟨⟩)
 simp (disch := first | omega | assumption | (simp only [l_c, l_b, l_f, l_g, l_e, l_d, or_false, false_or, l_ab, not_or]; done) | (simp only [l_c, l_b, l_f, l_g, l_e, l_d, or_false, false_or, not_or]; omega)) only [go_sem, ↓wBk, ↓eA, ↓eB, ↓eS, sT, simprocAttr, rd1_blk hi.blk]
 have ho1 : Own Msg.enc 6 44 base ((h.push (.cells #[Value.int IntKind.i64 key] 3)).push (.cells #[Value.int IntKind.i64 0, Value.int IntKind.i64 0, Value.int IntKind.i64 0, Value.int IntKind.i64 0, Value.int IntKind.i64 0, Value.int IntKind.i64 0] 44)) (.slice A l.length c) l := hi.own.fr (M := []) (by (exact FRR)) (fun _ _ => by simp)
 refine cI (indexFunc_ok (sz := 6) (p := fun m : Msg => decide (m.key = key)) i143.2 (ho1.arr enc_len).1 rfl (by omega) (heardAsk key (k := h.size) (M := []) ?_ ?_ ?_)) ?_
 ·(refine Xa ?_; try exact ⟨⟩)
 ·simp; omega
 ·simp
 rintro _ h1 ⟨rfl, hf1⟩
 have hsz1 := hf1.size
 simp only [l_c] at hsz1
 have hi1 : IsOb base h1 o (.slice A l.length c) next l := (hi.fr (M := []) (by (exact FRR)) (fun _ _ => by simp)).fr hf1 (fun _ _ => by simp)
 rcases idxOf_spec (fun m : Msg => decide (m.key = key)) l 0 with ⟨hx, hall⟩ | ⟨i, hx, hil, hbef, hat⟩
 ·have hx' : idxOf (fun m : Msg => decide (m.key = key)) l 0 = -1 := hx
  rw [hx']
  (refine Xb @hf1.blk ?_; try exact ⟨⟩)
  refine hK _ _ ⟨.inl ⟨hx', rfl, ?_⟩, ?_⟩
  ·exact hi1.fr (M := [h.size + 1]) (by (exact FRR)) (fun b hb => by
    rcases hb with rfl | hb
    ·simp; omega
    ·have := (hown.lt b hb).1
     simp; omega)
  ·(exact FRR)
 ·have hx' : idxOf (fun m : Msg => decide (m.key = key)) l 0 = (i : Int) := by simpa using hx
  rw [hx']
  obtain ⟨b, off, rfl, hr⟩ := (hi1.own.arr enc_len).1.at hil
  simp (disch := first | omega | assumption | (simp only [l_c, l_b, l_f, l_g, l_e, l_d, or_false, false_or, l_ab, not_or]; done) | (simp only [l_c, l_b, l_f, l_g, l_e, l_d, or_false, false_or, not_or]; omega)) only [go_sem, ↓wBk, ↓eA, ↓eB, ↓eS, sT, simprocAttr, rd1_blk hi1.blk, hr, Msg.enc]
  rw [show (i : Int) + 1 = ((i + 1 : Nat) : Int) from rfl]
  have hnb : o ≠ b := fun e => hap (by simp [blkOf, e])
  have hbn : b ≠ h.size ∧ b ≠ h.size + 1 := ⟨fun e => hs1 (by simp [blkOf, e]), fun e => hs2 (by simp [blkOf, e])⟩
  have hltb := (hi1.own.lt b (by simp [blkOf])).1
  have ho2 : Own Msg.enc 6 44 base _ (.slice (some ⟨b, off, none⟩) l.length c) l := (hi1.own.fr (h' := h1.push (.cells #[Value.int IntKind.i64 0, Value.int IntKind.i64 0, Value.int IntKind.i64 0, Value.int IntKind.i64 0, Value.int IntKind.i64 0, Value.int IntKind.i64 0] 44)) (M := []) (by (exact FRR)) (fun _ _ => by simp))
  refine cI (delete_ok (sz := 6) (T := 44) (bytes := 48) (i := i) (j := i + 1) i145.2 enc_len (by omega) enc_plain rfl zplain (hi1.own.keep (fun b' hb' => ?_)) (by omega) (by omega) (by omega)) ?_
  ·simp only [blkOf, l_aa] at hb'
   subst hb'
   (refine Xa ?_; try exact ⟨⟩)
  rintro v' h2 ⟨ho3, hf2, hb2⟩
  have hsz2 := hf2.size
  simp only [l_c, l_b] at hsz2
  obtain ⟨A', c', rfl⟩ := ho3.slice
  have hob : o ∉ blkOf (.slice (some ⟨b, off, none⟩) l.length c) := hap
  have hnn : h.size + 1 ∉ blkOf (.slice (some ⟨b, off, none⟩) l.length c) := hs2
  have hn1 : h1.size ∉ blkOf (.slice (some ⟨b, off, none⟩) l.length c) := fun hm => by simp only [blkOf, l_aa] at hm; omega
  (refine Xe @hf2.blk @hf2.rdN @hi1.blk @hf1.blk ?_; try exact ⟨⟩)
  have hsub : ∀ q ∈ blkOf (.slice A' (l.take i ++ l.drop (i + 1)).length c'), q = b := fun q hq => by simpa [blkOf] using hb2 q hq
  refine hK _ _ ⟨.inr ⟨i, hil, hx', rfl, _, ⟨?_, hge, (ho3.set (fun hm => hnb (hsub _ hm))).set (fun hm => hbn.2 (hsub _ hm).symm), fun hm => hnb (hsub _ hm)⟩, hb2⟩, ?_⟩
  ·(refine Xa ?_; try exact ⟨⟩)
  ·(exact FRR)
end Go.Proofs.YtcgbhcgfdcfmaaaGreat.MX
