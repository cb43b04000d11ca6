import Derived.Test.YtcgbhcgfdcfmaaaGreatK23
import Derived.Lib.Overlaps
import Derived.Test.YtcgbhcgfdcfmaaaGreatK10
import Derived.Test.YtcgbhcgfdcfmaaaGreatIR
namespace Go.Proofs.YtcgbhcgfdcfmaaaGreat.MX
open Go Go.Proofs
set_option linter.unusedSimpArgs false
set_option linter.unusedVariables false
section
section
variable {P : Program} {α : Type} {enc : α → List Value} {T sz bytes : Nat} {z : List Value} {h : c9} {A : Option Addr} {n c : Nat} {xs : List α}
theorem b0d {f : FuncId} (hc : Z7 P f = some (Q0 T sz bytes z)) (hsz : ∀ x, (enc x).length = sz) (h0 : 0 < sz) (hpl : ∀ x, pC (enc x) = true) (hz : z.length = sz) (hzp : ∀ n, pC (l5 z n) = true)
  {v : Value} (ho : O4 enc sz T h v xs) {i j : Nat} (hij : i ≤ j) (hj : j ≤ xs.length) (hroom : xs.length < 1000000000) :
  d8 P f [v, .int .i64 i, .int .i64 j] h fun v' h' => O4 enc sz T h' v' (xs.take i ++ xs.drop j) ∧ Fr h h' (i0 v) ∧ ∀ b ∈ i0 v', b ∈ i0 v := by
 have ho0 := ho
 rcases ho with ⟨rfl, rfl⟩ | ⟨b, cap, pre, cs, post, rfl, hle, h63', hblk, hl⟩
 ·simp only [l_g, Nat.le_zero] at hj
  subst hj
  obtain rfl : i = 0 := by omega
  refine eK hc (l_a rfl) fun K hK => ?_
  refine Xb @Q0.eq_1 ?_
  exact hK _ _ ⟨.inl ⟨rfl, rfl⟩, Fr.refl _ _, fun b hb => hb⟩
 ·refine eK hc (l_a rfl) fun K hK => ?_
  by_cases hi0 : (i : Int) < xs.length
  case neg =>
   obtain rfl : i = xs.length := by omega
   obtain rfl : j = xs.length := by omega
   refine Xb @Q0.eq_1 ?_
   exact hK _ _ ⟨by rw [C6]; exact ho0, Fr.refl _ _, fun b hb => hb⟩
  refine Xb @Q0.eq_1 ?_
  (generalize hg : dcd _ = bb; cases bb <;> (first | replace hg := x9 hg | replace hg := o7 hg) <;> (try simp (disch := first | omega | assumption | ((repeat' (first | exact Fr.refl _ _ | assumption | (refine Fr.via (by assumption) ?_ (by intro i hi hm; first | exact hm | exact l_l _ hm | exact absurd hm l_d | (simp only [l_e, l_y, l_d, or_false] at hm ⊢; omega))) | refine Fr.push ?_ _ | (refine Fr.setM ?_ ?_ _; · first | exact l_n | (simp only [l_e, true_or, or_true]; done)) | (refine Fr.setN ?_ ?_ _; · first | omega | (simp only [l_c, l_b]; omega)))); done) | (simp only [l_c, l_b, l_f, l_g, l_e, l_d, or_false, false_or, O2, not_or]; done) | (simp only [l_c, l_b, l_f, l_g, l_e, l_d, or_false, false_or, not_or]; omega)) only [go_sem, ↓wBk, ↓eA, ↓eB, ↓eS, sT, simprocAttr]))
  ·have hlt : i < j := by omega
   have ha := (ho0.arr hsz).1
   have hlen : ∀ k, k ≤ xs.length → ((xs.take k).flatMap enc).length = k * sz := fun k hk => by rw [fL hsz, u6, Nat.min_eq_left hk]
   have hdl : ∀ k, ((xs.drop k).flatMap enc).length = (xs.length - k) * sz := fun k => by rw [fL hsz, H8]
   have hxl : (xs.flatMap enc).length = xs.length * sz := fL hsz xs
   have hmj : j * sz + (xs.length - j) * sz = xs.length * sz := by rw [← M1]; congr 1; omega
   have hmi : i * sz + (xs.length - j) * sz = (i + (xs.length - j)) * sz := (M1 _ _ _).symm
   have hcap : xs.length * sz ≤ cap * sz := Z0 _ hle
   have hnew : (i + (xs.length - j)) * sz + (j - i) * sz = xs.length * sz := by rw [← M1]; congr 1; omega
   have hwl : (pre ++ ((xs.flatMap enc ++ cs) ++ post)).length = pre.length + cap * sz + post.length := by rw [l_m, l_m, hl]; omega
   have hsrc : ∀ a c', (a = some ⟨b, pre.length + j * sz, none⟩ ∨ xs.length - j = 0) → u5 h sz (xs.length - j) (.slice a (xs.length - j) c') = some ((xs.drop j).flatMap enc) := by
    intro a c' hac
    rcases hac with rfl | hac
    ·have := R8 (n := xs.length - j) (c := c') hsz (a6l ha j) (by rw [H8])
     rwa [H8] at this
    ·have : xs.drop j = [] := List.drop_eq_nil_of_le (by omega)
     rw [hac, this]
     cases a <;> simp [u5]
   have hcells : t7 (xs.flatMap enc ++ cs) (i * sz) ((xs.drop j).flatMap enc) = ((xs.take i ++ xs.drop j).flatMap enc) ++ (((xs.drop i).flatMap enc ++ cs).drop ((xs.length - j) * sz)) := by
    rw [K6 enc xs i, l_q, s7 _ _ [] _ (by rw [hlen i (by omega)]) _ (by rw [hdl j, l_m, hdl i]; have : (xs.length - j) * sz ≤ (xs.length - i) * sz := Z0 _ (by omega); omega), a0V, hdl j]
   have hzl : (l5 z (j - i)).length = (j - i) * sz := by rw [v5, hz]
   have hres : ∀ h2, blk h2 b = some (t7 (t7 (pre ++ ((xs.flatMap enc ++ cs) ++ post)) (pre.length + i * sz) ((xs.drop j).flatMap enc)) (pre.length + (i + (xs.length - j)) * sz) (l5 z (j - i)), T, (0, 0)) → O4 enc sz T h2 (.slice (some ⟨b, pre.length, none⟩) (i + (xs.length - j)) cap) (xs.take i ++ xs.drop j) := by
    intro h2 hb2
    have hl2 : (xs.take i ++ xs.drop j).length = i + (xs.length - j) := by simp; omega
    have hf2 : ((xs.take i ++ xs.drop j).flatMap enc).length = (i + (xs.length - j)) * sz := by rw [fL hsz, hl2]
    have hrest : (((xs.drop i).flatMap enc ++ cs).drop ((xs.length - j) * sz)).length + (i + (xs.length - j)) * sz = cap * sz := by
     have h1 := congrArg List.length hcells
     rw [E1, hl, l_m, hf2] at h1
     omega
    rw [U2 pre (xs.flatMap enc ++ cs) post _ rfl (by rw [hdl j, hl]; omega), hcells, U2 pre _ post _ rfl (by rw [l_m, hf2, hzl]; omega), ← hf2, s7 _ _ [] _ rfl _ (by rw [hzl]; omega), l_q ((xs.take i ++ xs.drop j).flatMap enc)] at hb2
    refine .inr ⟨b, cap, pre, _, post, by rw [hl2], by rw [hl2]; omega, h63', hb2, ?_⟩
    rw [l_m, hf2, l_m, hzl, H8]
    omega
   refine a0n [b] ?_
   by_cases hjc : j < cap
   ·refine Xa ?_
    refine a3o (n := i) (m := xs.length - j) (c := cap) (off := pre.length) (new := (xs.drop j).flatMap enc) rfl (hsrc _ _ (.inl rfl)) (by omega) hblk (by rw [hwl, hdl j]; omega) (v8 _) (K7 hpl _) ?_
    intro h1 hb1 hf1 hs1
    have e : xs.length - (i + (xs.length - j)) = j - i := by omega
    refine Xc hf1 e ?_
    refine a0b hb1 (by rw [E1, hwl, hzl]; omega) (v8 _) (hzp _) ?_
    intro h2 hb2 hf2 hs2
    refine Xa ?_
    exact hK _ _ ⟨hres _ hb2, hf1.trans hf2, fun b hb => hb⟩
   ·obtain rfl : j = cap := by omega
    obtain rfl : xs.length = j := by omega
    refine Xa ?_
    have hm0 : xs.length - xs.length = 0 := by omega
    rw [hm0] at hsrc hres hcells hnew hmi
    refine a3o (n := i) (m := 0) (c := xs.length) (off := pre.length) (new := (xs.drop xs.length).flatMap enc) rfl (hsrc _ _ (.inr rfl)) (by omega) hblk (by rw [hwl, hdl]; omega) (v8 _) (K7 hpl _) ?_
    intro h1 hb1 hf1 hs1
    refine Xb hf1 ?_
    refine a0b hb1 (by rw [E1, hwl, hzl]; omega) (v8 _) (hzp _) ?_
    intro h2 hb2 hf2 hs2
    refine Xa ?_
    exact hK _ _ ⟨hres _ hb2, hf1.trans hf2, fun b hb => hb⟩
  ·have : i = j := by omega
   subst this
   exact hK _ _ ⟨by rw [C6]; exact ho0, Fr.refl _ _, fun b hb => hb⟩
set_option maxHeartbeats 4000000 in
theorem a9E {o : Oper} {cl : Call} {S U e p q : Nat} (ho : o.op = .call cl) (hcl : cl.callee = .builtin .append) (hx : cl.args = #[.tmp p, .tmp q]) (ht : cl.argTypes = #[S, U])
  (hu : P.underlying S = some (.slice e)) (hU : P.underlying U = some (.int .i64)) (hs : C2 P e = some sz) (hb : N3 P e = some bytes) (hz : P4 P e = some z) (hl : z.length = sz ∧ 0 < sz ∧ 0 < bytes)
  {ρ : Env} {K : Value → c9 → Prop} {s1 : Tag ρ} {s2 : Tag h} {s3 : Tag K} {base : Option Addr} {n c m : Nat} {old : List Value} (hp : ρ p = .slice base n c) (hq : ρ q = .int .i64 m) (hm : 0 < m) (hgt : c < n + m) (hroom : (n + m) * bytes ≤ 140737488355328) (h63 : n + m ≤ 9223372036854775807)
  (hold : u5 h sz n (.slice base n c) = some old)
  (hk : ∀ cap, n + m ≤ cap → cap < 9223372036854775808 → K (.slice (some ⟨h.size, 0, none⟩) (n + m) cap) (h.push (.cells (old ++ l5 z m ++ l5 z (cap - (n + m))).toArray e (0, 0)))) : b9H P o ρ h K s1 s2 s3 := by
 intro w a hw hops
 subst hw
 have hops' : ∀ t, t ∈ [p, q] → a.eval (.tmp t) = ρ t := fun t ht => hops (.tmp t) (by rw [ho]; simp only [Op.operands, Call.operands, hcl, hx]; simp at ht ⊢; rcases ht with rfl | rfl <;> simp)
 have h1 := hops' p (by simp)
 have h2 := hops' q (by simp)
 rw [hp] at h1
 rw [hq] at h2
 obtain ⟨i, hi, hib⟩ : ∃ i, P.info? e = some i ∧ i.bytes = bytes := by
  unfold N3 at hb
  split at hb
  ·rename_i i hi; cases hb; exact ⟨i, hi, rfl⟩
  ·cases hb
 have hti : ∀ w, (typeInfo e).run P w = .ok i w := fun w => by simp [typeInfo, hi]
 obtain ⟨rfl, hz0, hb0⟩ := hl
 obtain ⟨zv, hzr, hzc⟩ := L4 hz w.drew
 have hfit : Builtin.nextslicecap (n + m) c * i.bytes ≤ 281474976710656 := growslice_fits (need := n + m) (old := c) (bytes := i.bytes) (by omega) (by rw [hib]; exact hroom)
 have hcap : ∀ t, n + m ≤ (Question.appendCap (n + m) c e).cut t ∧ (Question.appendCap (n + m) c e).cut t < 9223372036854775808 := fun t => by
  simp only [Question.cut]
  have : t % (9223372036854775808 - (n + m)) < 9223372036854775808 - (n + m) := Nat.mod_lt _ (by omega)
  constructor
  ·exact Nat.le_add_right _ _
  ·show n + m + t % (2 ^ 63 - (n + m)) < 9223372036854775808
   have e : (2 : Nat) ^ 63 = 9223372036854775808 := by decide
   rw [e]; omega
 obtain ⟨hc1, hc2⟩ := hcap (w.tape w.drawn (Question.appendCap (n + m) c e))
 have hkk := hk _ hc1 hc2
 generalize hcp : (Question.appendCap (n + m) c e).cut (w.tape w.drawn (Question.appendCap (n + m) c e)) = cap at hkk
 refine ⟨_, w.drew.alloc (.cells (old ++ l5 z m ++ l5 z (cap - (n + m))).toArray e (0, 0)), .inl ?_, ⟨rfl, rfl, rfl⟩, hkk⟩
 have hf1 : (Builtin.firstCells z.length n (Value.slice base n c)).run P w.drew = .ok old.toArray w.drew := I4 (by rw [X8]; exact hold)
 have hnle : ¬ (n + m ≤ c) := by omega
 have hzs := R9 z hz0 (cap - (n + m))
 have hzm := R9 z hz0 m
 have hnf : ¬ (281474976710656 < Builtin.nextslicecap (n + m) c * i.bytes) := by omega
 have hib0 : i.bytes ≠ 0 := by omega
 have hwm : IntKind.i64.wrap (m : Int) = m := m9 (by omega) (by omega)
 have hm0 : ¬ ((m : Int) < 0) := by omega
 have hmb : ¬ ((m : Int) * i.bytes > 281474976710656) := by
  have : (m : Int) * i.bytes ≤ ((n + m) * i.bytes : Nat) := by
   rw [Int.natCast_mul]
   exact Int.mul_le_mul_of_nonneg_right (by omega) (by omega)
  rw [hib] at this ⊢
  omega
 have hmz : ¬ (m * z.length = 0) := by
  intro h0
  rcases Nat.mul_eq_zero.1 h0 with h0 | h0 <;> omega
 have hn63 : ¬ ((n + m : Nat) : Int) > IntKind.i64.max := by
  show ¬ ((n + m : Nat) : Int) > 9223372036854775807
  omega
 have hmi : ¬ (m = 0 ∨ z = []) := by
  rintro (h0 | h0)
  ·omega
  ·rw [h0] at hz0; simp at hz0
 simp [execOp, ho, resolve, hcl, hx, invoke, builtin, Builtin.append_, ht, j8 hu, j8 hU, h1, h2, o8 hs, hnle, hti, hib0, hnf, Question.forced, hcp, hf1, hzr, hzc, hzs, hzm, newRow, hwm, hm0, hmb, hmz, hn63, hmi, asInt, asIntOf]
 all_goals (intro h0; omega)
theorem a7y {o : Oper} {cl : Call} {f : FuncId} {fn : Func} {S R e p q : Nat} (ho : o.op = .call cl) (hcl : cl.callee = .value (.func f)) (hx : cl.args = #[.tmp p, .tmp q])
  (hf : P.funcs[f]? = some fn) (hnm : (fn.name == "runtime.NumGoroutine") = false) (hbd : fn.body.isNone = true) (hn : Extern.findNext fn = none) (he : Extern.find fn = some (Extern.SlicesOverlaps.overlaps #[S, S] #[R]))
  (hu : P.underlying S = some (.slice e)) (hs : C2 P e = some sz)
  {ρ : Env} {K : Value → c9 → Prop} {s1 : Tag ρ} {s2 : Tag h} {s3 : Tag K} {a b oa ob la ca lb cb Ta Tb : Nat} {ka kb : List Value} (hp : ρ p = .slice (some ⟨a, oa, none⟩) la ca) (hq : ρ q = .slice (some ⟨b, ob, none⟩) lb cb)
  (hne : a ≠ b) (hba : blk h a = some (ka, Ta, (0, 0))) (hbb : blk h b = some (kb, Tb, (0, 0))) (hkb : kb ≠ []) (hk : K (.bool false) h) : b9H P o ρ h K s1 s2 s3 := by
 intro w ac hw hops
 subst hw
 have hops' : ∀ t, t ∈ [p, q] → ac.eval (.tmp t) = ρ t := fun t ht => hops (.tmp t) (by rw [ho]; simp only [Op.operands, Call.operands, hcl, hx]; simp at ht ⊢; rcases ht with rfl | rfl <;> simp)
 have h1 := hops' p (by simp)
 have h2 := hops' q (by simp)
 have h3 : ac.eval (.func f) = .func (.func f) #[] #[] := hops (.func f) (by rw [ho]; simp [Op.operands, Call.operands, hcl, hx])
 rw [hp] at h1
 rw [hq] at h2
 have cell : ∀ {b : Nat} {k : List Value} {T : Nat}, blk w.heap b = some (k, T, (0, 0)) → w.heap[b]? = some (.cells k.toArray T (0, 0)) := by
  intro b k T hb
  unfold blk at hb
  split at hb
  ·rename_i c' e' f' hc
   injection hb with hb
   injection hb with h1 h2
   injection h2 with h2 h3
   rw [hc, ← h1, h2, h3]
  ·cases hb
 have hca := cell hba
 have hcb := cell hbb
 have hsz : ∀ w, (Go.sizeOf e).run P w = .ok sz w := o8 hs
 have hr := Go.Lib.run_overlaps_apart w S R e hu sz hsz ⟨a, oa, none⟩ ⟨b, ob, none⟩ la ca lb cb hne Ta Tb ka.length kb.length (by simp [World.shape?, hca]) (by simp [World.shape?, hcb]) (by simpa using hkb) (by simp [World.frozen?, hca]) (by simp [World.frozen?, hca])
 have hcf := run_callFunc_extern hf hnm hbd hn he #[.slice (some ⟨a, oa, none⟩) la ca, .slice (some ⟨b, ob, none⟩) lb cb] w
 rw [hr] at hcf
 refine ⟨_, w, .inl ?_, ⟨rfl, rfl, rfl⟩, hk⟩
 simp [execOp, ho, resolve, hcl, hx, Deferred.ofValue, invoke, h1, h2, h3, hcf]
theorem a2J {b off n c m e : Nat} {f : Nat × Nat} {cells new : List Value} {y : Value} {K : Value → c9 → Prop} {s : Tag h} {t : Tag K} (hm : a0E y = some m) (hc : u5 h sz (min m n) y = some new) (hb : blk h b = some (cells, e, f))
  (hl : off + new.length ≤ cells.length) (hf : f.2 ≤ f.1) (hp : pC new = true) (hk : ∀ h', blk h' b = some (t7 cells off new, e, f) → Fr h h' [b] → h'.size = h.size → K (.int .i64 (min m n : Nat)) h') :
  b3Y sz (.slice (some ⟨b, off, none⟩) n c) y h K s t := by
 simp only [b3Y, a6n, H3, hm, hc]
 split
 ·rename_i hn
  subst hn
  exact hk h hb (Fr.refl _ _) rfl
 ·simp only [wrW, hb]
  exact ⟨⟨hl, .inl hf, hp⟩, hk _ (F0 (B6 hb)) ((Fr.refl _ _).set (.inl (by simp)) _) (by simp)⟩
theorem b8X (hsz : ∀ x, (enc x).length = sz) (h0 : 0 < sz) (hpl : ∀ x, pC (enc x) = true) (hz : z.length = sz) {v y : Value} {ys : List α} {K : Value → c9 → Prop} {s : Tag h} {t : Tag K}
  (ho : O4 enc sz T h v xs) (hm : a0E y = some ys.length) (hc : u5 h sz ys.length y = some (ys.flatMap enc)) (hroom : (xs.length + ys.length) * bytes ≤ 140737488355328) (h63 : xs.length + ys.length ≤ 9223372036854775807)
  (hk : ∀ v' h', O4 enc sz T h' v' (xs ++ ys) → Fr h h' (i0 v) → (∀ b ∈ i0 v', b ∈ i0 v ∨ h.size ≤ b) → K v' h') : a5l T sz bytes z v y h K s t := by
 have ho0 := ho
 rcases ho with ⟨rfl, rfl⟩ | ⟨b, cap, pre, cs, post, rfl, hle, h63', hblk, hl⟩
 ·exact a0r hsz h0 hpl hz (base := 0) (xs := []) (.inl ⟨rfl, rfl⟩) (Nat.zero_le _) hm hc hroom h63 fun v' h' ho' hf hb => hk v' h' ho'.toO hf hb
 have hlen : (xs.flatMap enc).length = xs.length * sz := fL hsz xs
 have hleny : (ys.flatMap enc).length = ys.length * sz := fL hsz ys
 by_cases hfit : xs.length + ys.length ≤ cap
 ·have hmul : (xs.length + ys.length) * sz ≤ cap * sz := Z0 _ hfit
  rw [M1] at hmul
  have hcs : ys.length * sz ≤ cs.length := by
   rw [l_m, hlen] at hl
   omega
  refine a3o hm hc hfit hblk (by simp only [l_m] at hl ⊢; omega) (v8 _) (K7 hpl _) ?_
  intro h' hb' hf hs
  rw [U2 pre _ post _ rfl (by rw [hl]; omega), s7 _ _ [] _ hlen.symm _ (by omega), ← a0V] at hb'
  refine hk _ _ (.inr ⟨b, cap, pre, _, post, by rw [l_m], by rw [l_m]; exact hfit, h63', hb', ?_⟩) hf fun b' hb' => .inl hb'
  rw [l_m, a0V, l_m, H8, hlen, hleny]
  rw [l_m, hlen] at hl
  omega
 ·have ha := (ho0.arr hsz).1
  simp only [a5l, a7J, H3, hm, hc, if_neg hfit, R8 hsz ha rfl]
  refine ⟨hroom, h63, fun cap' hc1 hc2 => ?_⟩
  refine hk _ _ (.inr ⟨h.size, cap', [], l5 z (cap' - (xs.length + ys.length)), [], by simp, by rw [l_m]; exact hc1, hc2, ?_, ?_⟩) ((Fr.refl _ _).push _) (fun b hb => .inr ?_)
  ·rw [a0V, l_k, C4]
   exact y7 rfl
  ·rw [a0V, l_m, l_m, hlen, hleny, v5, hz, ← M1, ← M1]
   congr 1
   omega
  ·simp only [i0, Q9] at hb
   omega
end
end
section
set_option maxHeartbeats 4000000
structure Tm where
 day : Int
 num : Int
deriving DecidableEq
def tmE (x : Tm) : List Value := [.int .i64 x.day, .int .i64 x.num]
theorem z3 (x : Tm) : (tmE x).length = 2 := rfl
theorem N8 (x : Tm) : pC (tmE x) = true := rfl
abbrev tmz : List Value := [.int .i64 0, .int .i64 0]
theorem a6H : ∀ n, pC (l5 tmz n) = true
 | 0 => rfl
 | n + 1 => by
  have := a6H n
  simp only [l5, tmz, l_j, l_k, pC]
  rw [this]; rfl
section
variable {h : c9} {v : Value} {xs : List Tm}
theorem b2h {i g : Nat} {x : Tm} (ho : O4 tmE 2 135 h v xs) (hi : i ≤ xs.length) (hroom : xs.length < 1000000) (hgb : blk h g = some (tmE x, 135, (0, 0))) (hgv : g ∉ i0 v) :
  d8 Tryz.prog 124 [v, .int .i64 i, .slice (some ⟨g, 0, none⟩) 1 1] h fun v' h' => O4 tmE 2 135 h' v' (xs.take i ++ x :: xs.drop i) ∧ Fr h h' (i0 v) ∧ ∀ b ∈ i0 v', b ∈ i0 v ∨ h.size ≤ b := by
 have hsg : ∀ h', blk h' g = blk h g → u5 h' 2 1 (.slice (some ⟨g, 0, none⟩) 1 1) = some (tmE x) := fun h' e => L7 rfl (by rw [F4 (by rw [e]; exact hgb) (by simp [tmE])]; rfl)
 by_cases hin : i = xs.length
 ·subst hin
  have key : ∀ {K : Value → c9 → Prop} {s1 : Tag h} {s2 : Tag K}, (∀ v' h', (O4 tmE 2 135 h' v' (xs.take xs.length ++ x :: xs.drop xs.length) ∧ Fr h h' (i0 v) ∧ ∀ b ∈ i0 v', b ∈ i0 v ∨ h.size ≤ b) → K v' h') → a5l 135 2 16 tmz v (.slice (some ⟨g, 0, none⟩) 1 1) h K s1 s2 := by
   intro K s1 s2 hk
   refine b8X (ys := [x]) z3 (by omega) N8 rfl ho rfl ?_ (by simp; omega) (by simp; omega) ?_
   ·simpa using hsg h rfl
   ·intro v' h' ho' hf hb
    exact hk _ _ ⟨by simpa using ho', hf, hb⟩
  obtain ⟨A, c, rfl⟩ := ho.slice
  obtain ⟨-, -, hlc, -⟩ := ho.arr z3
  refine EN i124.eq_1 fun K hK => ?_
  (refine Wb @c0y ?_; try exact ⟨⟩)
  refine key fun v' h' hq => ?_
  (refine Wa ?_; try exact ⟨⟩)
  exact hK _ _ hq
 have hlt : i < xs.length := by omega
 have ho0 := ho
 rcases ho with ⟨rfl, rfl⟩ | ⟨b, cap, pre, cs, post, rfl, hle, h63', hblk, hl⟩
 ·simp at hlt
 obtain ⟨ha, -, -, -⟩ := ho0.arr z3
 have hxl : (xs.flatMap tmE).length = xs.length * 2 := fL z3 xs
 have htl : ((xs.take i).flatMap tmE).length = i * 2 := by rw [fL z3, u6, Nat.min_eq_left hi]
 have hdl : ((xs.drop i).flatMap tmE).length = (xs.length - i) * 2 := by rw [fL z3, H8]
 have hwl : (pre ++ ((xs.flatMap tmE ++ cs) ++ post)).length = pre.length + cap * 2 + post.length := by rw [l_m, l_m, hl]; omega
 have hbg : g ≠ b := fun e => hgv (by simp [i0, e])
 have hsd : ∀ h' n' c', blk h' b = blk h b → u5 h' 2 (xs.length - i) (.slice (some ⟨b, pre.length + i * 2, none⟩) n' c') = some ((xs.drop i).flatMap tmE) := by
  intro h' n' c' e
  have ha' : Arr tmE 2 h' (some ⟨b, pre.length, none⟩) xs := ((ho0.keep (h' := h') (by simp [i0, e])).arr z3).1
  have := R8 (n := xs.length - i) (c := c') z3 (a6l ha' i) (by rw [H8])
  rw [H8] at this
  exact this
 have e1 : ((xs.length : Int) + 1).toNat = xs.length + 1 := by omega
 have e2 : ((i : Int) + 1).toNat = i + 1 := by omega
 have e3 : (((xs.length + 1 : Nat) : Int) - ((i : Int) + 1)).toNat = xs.length - i := by omega
 have e4 : ((cap : Int) - ((i : Int) + 1)).toNat = cap - (i + 1) := by omega
 have e5 : (((xs.length + 1 : Nat) : Int) - (i : Int)).toNat = xs.length + 1 - i := by omega
 have hxi : (xs.drop i).flatMap tmE = tmE xs[i] ++ (xs.drop (i + 1)).flatMap tmE := by rw [U6 hlt, T0]
 have hdl1 : ((xs.drop (i + 1)).flatMap tmE).length = (xs.length - (i + 1)) * 2 := by rw [fL z3, H8]
 by_cases hcp : (cap : Int) < xs.length + 1
 ·refine EN i124.eq_1 fun K hK => ?_
  (refine Wb hcp ?_; try exact ⟨⟩)
  refine a9E (base := some ⟨b, pre.length, none⟩) (n := i) (c := cap) (sz := 2) (S := 78) (U := 3) (e := 135) (bytes := 16) (z := tmz) (m := xs.length + 1 - i) (old := (xs.take i).flatMap tmE) rfl rfl rfl rfl (by kernel_rfl) (by kernel_rfl) (by kernel_rfl) (by kernel_rfl) (by kernel_rfl) (by decide) (by (refine Wa ?_; try exact ⟨⟩)) (by (refine Wa ?_; try exact ⟨⟩); exact congrArg _ (by omega)) (by omega) (by omega) (by omega) (by omega) ?_ ?_
  ·have := R8 (n := i) (c := cap) z3 (b3i ha i) (by rw [u6, Nat.min_eq_left hi])
   rwa [u6, Nat.min_eq_left hi] at this
  ·intro c' h1 h2
   have en : i + (xs.length + 1 - i) = xs.length + 1 := by omega
   have en2 : ((xs.length + 1 : Nat) : Int) - (i : Int) = ((xs.length + 1 - i : Nat) : Int) := by omega
   have en3 : xs.length + 1 - i = xs.length - i + 1 := by omega
   rw [en] at h1 ⊢
   by_cases hic : (i : Int) < c'
   case neg => omega
   (refine Wc e2 e3 ?_; try exact ⟨⟩)
   refine a2J (m := 1) (new := tmE x) rfl ?_ (y7 rfl) ?_ (v8 _) (N8 _) ?_
   ·have : min 1 (xs.length + 1 - i) = 1 := by omega
    rw [this]
    exact hsg _ (C0 (B6 hgb))
   ·simp only [l_m, htl, v5]
    simp [tmE]; omega
   intro h3 hb3 hf3 hs3
   rw [en3, show l5 tmz (xs.length - i + 1) = tmz ++ l5 tmz (xs.length - i) from rfl, l_q, l_q, ← htl, a1K _ _ _ _ (by rfl)] at hb3
   (refine Wa ?_; try exact ⟨⟩)
   refine a0n [h.size] ?_
   (refine Wc e2 e3 ?_; try exact ⟨⟩)
   have hob : blk h3 b = blk h b := by
    rw [hf3.blk (B6 (by rw [C0 (B6 hblk)]; exact hblk)) (by have := B6 hblk; simp; omega), C0 (B6 hblk)]
   refine a2J (m := xs.length - i) (new := (xs.drop i).flatMap tmE) rfl (by rw [Nat.min_self]; exact hsd h3 _ _ hob) hb3 ?_ (v8 _) (K7 N8 _) ?_
   ·simp only [l_m, htl, v5, hdl]
    simp [tmE]; omega
   intro h4 hb4 hf4 hs4
   rw [← l_q, show (i + 1) * 2 = ((xs.take i).flatMap tmE ++ tmE x).length by rw [l_m, htl, z3]; omega, a1K _ _ _ _ (by rw [hdl, v5]; rfl)] at hb4
   (refine Wa ?_; try exact ⟨⟩)
   refine hK _ _ ⟨.inr ⟨h.size, c', [], l5 tmz (c' - (xs.length + 1)), [], ?_, ?_, h2, ?_, ?_⟩, ?_, ?_⟩
   ·simp; omega
   ·simp; omega
   ·rw [hb4]; simp
   ·simp only [l_m, a0V, T0, htl, hdl, z3, v5]
    simp; omega
   ·have h5 := hf3.trans hf4
    refine ⟨by have := h5.size; simp at this; omega, fun b' hb' _ => ?_⟩
    rw [h5.same b' (by simp; omega) (by simp; omega), Array.getElem?_push, if_neg (by omega)]
   ·intro b' hb'
    simp only [i0, Q9] at hb'
    omega
 ·refine EN i124.eq_1 fun K hK => ?_
  (refine Wf hcp e1 e2 e3 e4 ?_; try exact ⟨⟩)
  refine a7y (fn := Option.get (Tryz.prog.funcs[157]?) (by kernel_rfl)) (oa := 0) (la := 1) (ca := 1) (ob := pre.length + (i + 1) * 2) (lb := xs.length - i) (cb := cap - (i + 1)) (S := 78) (R := 4) (e := 135) (sz := 2) rfl rfl rfl (Option.some_get _).symm (by kernel_rfl) (by kernel_rfl) (by kernel_rfl) (by kernel_rfl) (by kernel_rfl) (by kernel_rfl) (by (refine Wa ?_; try exact ⟨⟩)) (by (refine We e1 e2 e3 e4 ?_; try exact ⟨⟩)) hbg hgb hblk (by intro e; have := congrArg List.length e; rw [hwl] at this; simp at this; omega) ?_
  (refine Wa ?_; try exact ⟨⟩)
  refine a0n [b] ?_
  (refine Wf e1 e2 e3 e4 e5 ?_; try exact ⟨⟩)
  refine a2J (m := xs.length + 1 - i) (new := (xs.drop i).flatMap tmE) rfl (by rw [show min (xs.length + 1 - i) (xs.length - i) = xs.length - i by omega]; exact hsd h _ _ rfl) hblk (by rw [hwl, hdl]; omega) (v8 _) (K7 N8 _) ?_
  intro h3 hb3 hf3 hs3
  (refine Wf e1 e2 e3 e4 e5 ?_; try exact ⟨⟩)
  refine a2J (m := 1) (new := tmE x) rfl ?_ hb3 (by rw [E1, hwl, z3]; omega) (v8 _) (N8 _) ?_
  ·rw [show min 1 (xs.length + 1 - i) = 1 by omega]
   exact hsg _ (hf3.blk (B6 hgb) (by simpa using hbg))
  intro h4 hb4 hf4 hs4
  (refine Wa ?_; try exact ⟨⟩)
  have hcs : 2 ≤ cs.length := by rw [l_m, hxl] at hl; omega
  have hsplit : xs.flatMap tmE ++ cs = ((xs.take i).flatMap tmE ++ tmE xs[i]) ++ ((xs.drop (i + 1)).flatMap tmE ++ cs) := by rw [K6 tmE xs i, hxi]; simp only [l_q]
  have hin1 : t7 (xs.flatMap tmE ++ cs) ((i + 1) * 2) ((xs.drop i).flatMap tmE) = (xs.take i).flatMap tmE ++ (tmE xs[i] ++ ((xs.drop i).flatMap tmE ++ ((xs.drop (i + 1)).flatMap tmE ++ cs).drop ((xs.drop i).flatMap tmE).length)) := by
   rw [hsplit, s7 _ _ [] _ (by rw [l_m, htl, z3]; omega) _ (by rw [l_m, hdl, hdl1]; omega)]
   simp only [l_q]
  rw [U2 pre _ post _ (by omega) (k := (i + 1) * 2) (by rw [hl, hdl]; omega), hin1, U2 pre _ post _ rfl (by simp only [l_m, htl, z3]; omega), ← htl, a1K _ _ _ _ (by rfl)] at hb4
  refine hK _ _ ⟨.inr ⟨b, cap, pre, ((xs.drop (i + 1)).flatMap tmE ++ cs).drop ((xs.drop i).flatMap tmE).length, post, ?_, ?_, h63', ?_, ?_⟩, hf3.trans hf4, fun b' hb' => .inl hb'⟩
  ·simp; omega
  ·simp; omega
  ·rw [hb4]; simp
  ·simp only [l_m, a0V, T0, htl, hdl, hdl1, z3, H8]
   rw [l_m, hxl] at hl
   omega
end
end
section
set_option maxHeartbeats 4000000
def b3F (a b : Int) : Int := if a < b then -1 else if b < a then 1 else 0
def b9b (a b : Tm) : Int := if b3F a.day b.day = 0 then b3F a.num b.num else b3F a.day b.day
def u9 (a b : Tm) : Prop := a.day < b.day ∨ (a.day = b.day ∧ a.num < b.num)
instance (a b : Tm) : Decidable (u9 a b) := by unfold u9; exact inferInstance
theorem b1W (a b : Tm) : b9b a b < 0 ↔ u9 a b := by
 unfold b9b b3F u9
 split <;> (rename_i h; revert h; repeat' split) <;> omega
theorem T5 (a : Int) (h : c9) : d8 Tryz.prog 170 [.int .i64 a] h fun v h' => v = .bool false ∧ h' = h := by
 refine EN i170.eq_1 fun K hK => Wa ?_
 exact hK _ _ ⟨rfl, rfl⟩
theorem a3U (a b : Int) (h : c9) : d8 Tryz.prog 156 [.int .i64 a, .int .i64 b] h fun v h' => v = .int .i64 (b3F a b) ∧ h' = h := by
 unfold b3F
 by_cases h1 : a < b
 ·refine EN i156.eq_1 fun K hK => Wa ?_
  refine cI (T5 _ _) ?_
  rintro _ _ ⟨rfl, rfl⟩
  refine Wa ?_
  refine cI (T5 _ _) ?_
  rintro _ _ ⟨rfl, rfl⟩
  refine Wb h1 ?_
  exact hK _ _ ⟨by simp [h1], rfl⟩
 ·by_cases h2 : b < a
  ·refine EN i156.eq_1 fun K hK => Wa ?_
   refine cI (T5 _ _) ?_
   rintro _ _ ⟨rfl, rfl⟩
   refine Wa ?_
   refine cI (T5 _ _) ?_
   rintro _ _ ⟨rfl, rfl⟩
   refine Wc h1 h2 ?_
   exact hK _ _ ⟨by simp [h1, h2], rfl⟩
  ·refine EN i156.eq_1 fun K hK => Wa ?_
   refine cI (T5 _ _) ?_
   rintro _ _ ⟨rfl, rfl⟩
   refine Wa ?_
   refine cI (T5 _ _) ?_
   rintro _ _ ⟨rfl, rfl⟩
   refine Wc h1 h2 ?_
   exact hK _ _ ⟨by simp [h1, h2], rfl⟩
theorem b9K (a b : Int) {h : c9} {g c : Nat} (r0 : rd1 h (.pointer (some ⟨g, 0, none⟩)) = some (.int .i64 a)) (r1 : rd1 h (.pointer (some ⟨g, 1, none⟩)) = some (.int .i64 b)) :
  d8 Tryz.prog 155 [.slice (some ⟨g, 0, none⟩) 2 c] h fun v h' => v = .int .i64 (if a = 0 then b else a) ∧ h' = h := by
 by_cases ha : a = 0
 ·by_cases hb : b = 0
  ·refine EN i155.eq_1 fun K hK => Wa ?_
   refine x4 3 ?_
   refine We r0 r1 ha hb ?_
   exact hK _ _ ⟨by simp [ha, hb], rfl⟩
  ·refine EN i155.eq_1 fun K hK => Wa ?_
   refine x4 3 ?_
   refine We r0 r1 ha hb ?_
   exact hK _ _ ⟨by simp [ha, hb], rfl⟩
 ·refine EN i155.eq_1 fun K hK => Wa ?_
  refine x4 3 ?_
  refine Wd r0 r1 ha ?_
  exact hK _ _ ⟨by simp [ha], rfl⟩
section
variable {h0 h : c9} {l : List HP}
theorem b5C (a b : Tm) (S : St h0 h l) : d8 Tryz.prog 123 [.agg (tmE a).toArray, .agg (tmE b).toArray] h fun v h' => v = .int .i64 (b9b a b) ∧ St h0 h' l := by
 simp only [tmE]
 refine EN i123.eq_1 fun K hK => Wa ?_
 (revert S; (try clear F); refine AL fun p h S F => ?_)
 refine Wb F ?_
 (revert S; (try clear F); refine AL fun q h S F => ?_)
 refine Wb F ?_
 have rq : ∀ off K t, n6 (fun h' => St h0 h' _) (fun h' => rd1 h' (.pointer (some ⟨q, off, none⟩))) K t = z7 ([Value.int .i64 b.day, Value.int .i64 b.num][off]?) K ⟨⟩ := fun off K t => B1 S (fun h' s => l9 s)
 have rp : ∀ off K t, n6 (fun h' => St h0 h' _) (fun h' => rd1 h' (.pointer (some ⟨p, off, none⟩))) K t = z7 ([Value.int .i64 a.day, Value.int .i64 a.num][off]?) K ⟨⟩ := fun off K t => B1 S (fun h' s => l9 s.p1)
 refine T4 S ?_
 refine Wc rp rq ?_
 refine cI (a3U _ _ _) ?_
 rintro _ _ ⟨rfl, rfl⟩
 refine Wc rp rq ?_
 try refine ⟨S, ?_⟩
 refine Wc rp rq ?_
 refine cI (a3U _ _ _) ?_
 rintro _ _ ⟨rfl, rfl⟩
 refine Wc rp rq ?_
 try refine ⟨S, ?_⟩
 refine We rp rq @l5.eq_1 @l5.eq_2 ?_
 (revert S; (try clear F); refine AL fun g h S F => ?_)
 try refine ⟨S.tl, ?_⟩
 refine Wb F ?_
 refine cI (b9K _ _ (l9 S) (l9 S)) ?_
 rintro _ _ ⟨rfl, rfl⟩
 refine Wa ?_
 try refine ⟨S.tl, ?_⟩
 refine Wa ?_
 exact hK _ _ ⟨rfl, S.tl.tl.tl⟩
def a5T (xs : List Tm) (x : Tm) : Nat := (xs.takeWhile (fun y => decide (u9 y x))).length
theorem b8i {xs : List Tm} {x : Tm} {i : Nat} (hi : i ≤ xs.length) (h1 : ∀ k (hk : k < xs.length), k < i → u9 xs[k] x) (h2 : ∀ k (hk : k < xs.length), i ≤ k → ¬ u9 xs[k] x) : a5T xs x = i := by
 unfold a5T
 induction xs generalizing i with
 | nil => simp at hi; simp [hi]
 | cons y ys ih =>
  rw [List.takeWhile_cons]
  cases i with
  | zero =>
   have := h2 0 (by simp) (by omega)
   simp only [List.getElem_cons_zero] at this
   simp [this]
  | succ i =>
   have := h1 0 (by simp) (by omega)
   simp only [List.getElem_cons_zero] at this
   simp only [this, decide_true, if_true, l_f]
   rw [ih (i := i) (by simpa using hi) (fun k hk hki => h1 (k + 1) (by simpa using hk) (by omega)) (fun k hk hki => h2 (k + 1) (by simpa using hk) (by omega))]
theorem a0B {a b c : Tm} (h1 : u9 a b) (h2 : u9 b c) : u9 a c := by
 unfold u9 at *
 omega
theorem a5x {a b : Tm} {K : Value → c9 → Prop} {s : Tag h} {t : Tag K} (S : St h0 h l) (hk : ∀ h', St h0 h' l → K (.int .i64 (b9b a b)) h') : a2z Tryz.prog (.func (.func 123) #[] #[]) [.agg (tmE a).toArray, .agg (tmE b).toArray] h K s t :=
 a6W (a := []) (b := []) a5h ((b5C a b S).mono fun v h' ⟨e, S'⟩ => e ▸ hk h' S')
theorem b2S {xs : List Tm} {x : Tm} {A : Option Addr} {c : Nat} (S : St h0 h l) (ha : ∀ h', St h0 h' l → Arr tmE 2 h' A xs) (hs : xs.Pairwise u9) (hn : xs.length < 1000000) :
  d8 Tryz.prog 122 [.slice A xs.length c, .agg (tmE x).toArray, .func (.func 123) #[] #[]] h fun v h' => (∃ b, v = .tuple #[.int .i64 (a5T xs x), .bool b]) ∧ St h0 h' l := by
 have hmono : ∀ j k (hj : j < xs.length) (hk : k < xs.length), j < k → u9 xs[j] xs[k] := fun j k hj hk hjk => List.pairwise_iff_getElem.1 hs j k hj hk hjk
 refine EN i122.eq_1 fun K hK => Wa ?_
 (revert S; (try clear F); refine AL fun p h S F => ?_)
 refine Wb F ?_
 have hrx : ∀ {h : c9} (S : St h0 h (f8 p (tmE x) 135 :: l)) (m : Nat) (hml : m < xs.length), ∃ bk off, A = some ⟨bk, off, none⟩ ∧ ∀ K t, n6 (fun h' => St h0 h' (f8 p (tmE x) 135 :: l)) (fun h' => i5 (rdN h' bk (off + m * 2) 2) fun cs => some (.agg cs.toArray)) K t = z7 (some (.agg (tmE xs[m]).toArray)) K ⟨⟩ := by
  intro h S m hml
  obtain ⟨b0, o0, hA, _⟩ := ha h S.tl m hml
  refine ⟨b0, o0, hA, fun K t => B1 S fun h' s => ?_⟩
  obtain ⟨b1, o1, hA1, hr1⟩ := ha h' s.tl m hml
  rw [hA] at hA1
  cases hA1
  rw [hr1]; rfl
 have hrp : ∀ {h : c9} (S : St h0 h (f8 p (tmE x) 135 :: l)), ∀ K t, n6 (fun h' => St h0 h' (f8 p (tmE x) 135 :: l)) (fun h' => i5 (rdN h' p 0 2) fun cs => some (.agg cs.toArray)) K t = z7 (some (.agg (tmE x).toArray)) K ⟨⟩ := by
  intro h S K t
  exact B1 S fun h' s => by rw [J3 s (by simp [tmE])]; rfl
 refine lI (fun ρ h' => St h0 h' (f8 p (tmE x) 135 :: l) ∧ ρ 0 = .slice A xs.length c ∧ ρ 2 = .func (.func 123) #[] #[] ∧ ρ 4 = .pointer (some ⟨p, 0, none⟩) ∧ ρ 8 = .int .i64 xs.length ∧ ∃ i j : Nat, ρ 9 = .int .i64 i ∧ ρ 10 = .int .i64 j ∧ i ≤ j ∧ j ≤ xs.length ∧ (∀ k (hk : k < xs.length), k < i → u9 xs[k] x) ∧ (∀ k (hk : k < xs.length), j ≤ k → ¬ u9 xs[k] x)) (fun ρ _ => (iv (ρ 10)).toNat - (iv (ρ 9)).toNat) ?_ ?_
 ·refine Wa ?_
  exact ⟨S, 0, xs.length, rfl, rfl, by omega, by omega, fun k hk h => by omega, fun k hk h => by omega⟩
 ·clear S F
  rintro ρ h J hJ ⟨S, e0, e2, e4, e8, i, j, e9, e10, hij, hj, h1, h2⟩
  refine Wc e9 e10 ?_
  refine cD (fun hlt => ?_) (fun hlt => ?_)
  ·have hm : IntKind.i64.wrap (((i : Int) + j).fdiv (2 ^ min 1 64)) = (((i + j) / 2 : Nat) : Int) := by
    rw [show (2 : Int) ^ min 1 64 = 2 from rfl, Int.fdiv_eq_ediv_of_nonneg _ (by omega), show ((i : Int) + j) / 2 = (((i + j) / 2 : Nat) : Int) by omega]
    exact m9 (by omega) (by omega)
   generalize hmd : (i + j) / 2 = m at hm
   have hml : m < xs.length := by omega
   refine Wd e9 e10 hm ?_
   obtain ⟨bk, off, rfl, rx⟩ := hrx S m hml
   have rp := hrp S
   refine T4 S ?_
   refine Wf e0 e2 e4 rx rp ?_
   refine a5x S fun h' S => ?_
   refine Wa ?_
   try refine ⟨S, ?_⟩
   refine Wa ?_
   refine cD (fun ho => ?_) (fun ho => ?_)
   ·have ho := (b1W _ _).1 ho
    refine Wa ?_
    refine hJ _ _ ⟨S, ?_⟩ ?_
    ·refine Wf e0 e2 e4 e8 e10 ?_
     exact ⟨m + 1, j, rfl, rfl, by omega, hj, fun k hk hkm => by
      by_cases hkm' : k = m
      ·subst hkm'; exact ho
      ·exact a0B (hmono k m hk hml (by omega)) ho, h2⟩
    ·refine Wc e9 e10 ?_
     omega
   ·have ho := fun h => ho ((b1W _ _).2 h)
    refine Wa ?_
    refine hJ _ _ ⟨S, ?_⟩ ?_
    ·refine Wf e0 e2 e4 e8 e9 ?_
     exact ⟨i, m, rfl, rfl, by omega, by omega, h1, fun k hk hkm => by
      by_cases hkm' : k = m
      ·subst hkm'; exact ho
      ·exact fun h => ho (a0B (hmono m k hml hk (by omega)) h)⟩
    ·refine Wc e9 e10 ?_
     omega
  ·obtain rfl : i = j := by omega
   have hpos : a5T xs x = i := b8i hj h1 h2
   by_cases hin : (i : Int) < xs.length
   ·obtain ⟨bk, off, rfl, rx⟩ := hrx S i (by omega)
    have rp := hrp S
    refine Wc e9 e8 ?_
    refine T4 S ?_
    refine Wi e0 e2 e4 e8 e9 rx rp hin ?_
    refine a5x S fun h' S => ?_
    refine Wa ?_
    try refine ⟨S, ?_⟩
    refine Wa ?_
    exact hK _ _ ⟨⟨_, by rw [hpos]⟩, S.tl⟩
   ·refine Wc e9 e8 ?_
    refine T4 S ?_
    refine Wg e0 e2 e4 e8 e9 hin ?_
    exact hK _ _ ⟨⟨_, by rw [hpos]⟩, S.tl⟩
end
end
section
set_option maxHeartbeats 4000000
def C7 (t : Nat) (L : List Tm) : HP := exA fun s => a1U (f8 t [s] 80) (a4m tmE 2 135 s L)
def W8 (L : List Tm) : Prop := L.Pairwise u9 ∧ L.Pairwise (fun a b => a.num ≠ b.num)
def a0O (n : Int) (x : Tm) : Bool := decide (x.num = n)
def without (L : List Tm) (n : Int) : List Tm := L.filter fun x => !a0O n x
section
variable {h0 h : c9} {l : List HP} {t : Nat} {L : List Tm}
theorem St.tim : St h0 h (C7 t L :: l) ↔ ∃ s, St h0 h (f8 t [s] 80 :: a4m tmE 2 135 s L :: l) := by
 unfold C7
 rw [St.ex]
 simp only [St.star]
theorem St.timO {s : Value} (S : St h0 h (f8 t [s] 80 :: a4m tmE 2 135 s L :: l)) : ∃ A c, s = .slice A L.length c := S.p1.offSl
theorem c0j {h : c9} {q : Nat} {n : Int} (hq : blk h q = some ([.int .i64 n], 3, (0, 0))) :
  a4p Tryz.prog tmE h [] (.func (.func 160) #[] (List.toArray [.pointer (some ⟨q, 0, none⟩)])) (a0O n) := by
 refine ⟨_, _, rfl, a0Z, fun x h' hf => ?_⟩
 have hr : rd1 h' (.pointer (some ⟨q, 0, none⟩)) = some (.int .i64 n) := by rw [hf.rd1 (B6 hq) (by simp), s9 hq]; rfl
 have S := St.nil h'
 simp only [tmE]
 refine EN i160.eq_1 fun K hK => Wa ?_
 (revert S; (try clear F); refine AL fun p h S F => ?_)
 have hr : rd1 h (.pointer (some ⟨q, 0, none⟩)) = some (.int .i64 n) := by rw [S.fr.rd1 (Nat.lt_of_lt_of_le (B6 hq) hf.size) (by simp)]; exact hr
 refine Wc F hr ?_
 exact hK _ _ ⟨by rw [R5]; rfl, S.fr⟩
theorem c0Q (n : Int) (S : St h0 h (C7 t L :: l)) (hL : L.length < 1000000) : d8 Tryz.prog 126 [.pointer (some ⟨t, 0, none⟩), .int .i64 n] h fun v h' => v = .int .i64 (E9 (a0O n) L 0) ∧ St h0 h' (C7 t L :: l) := by
 obtain ⟨s, S⟩ := St.tim.1 S
 obtain ⟨A, c, rfl⟩ := S.timO
 refine EN i126.eq_1 fun K hK => Wa ?_
 (revert S; (try clear F); refine AL fun q h S F => ?_)
 refine Wb F ?_
 refine cI (M2 i159.2 (S.p2.offArr z3) rfl (by omega) (c0j S.blk)) ?_
 rintro v h' ⟨rfl, hf⟩
 refine Wa ?_
 exact hK _ _ ⟨rfl, St.tim.2 ⟨_, (S.frame hf).tl⟩⟩
theorem b2U (S : St h0 h (C7 t L :: l)) (hL : L.length < 1000000) : d8 Tryz.prog 33 [.pointer (some ⟨t, 0, none⟩)] h fun v h' => ∃ t', v = .pointer (some ⟨t', 0, none⟩) ∧ St h0 h' (C7 t' L :: C7 t L :: l) := by
 obtain ⟨s, S⟩ := St.tim.1 S
 obtain ⟨A, c, rfl⟩ := S.timO
 ((try clear F); have F := S.fx)
 refine EN i33.eq_1 fun K hK => ?_
 refine Wb F ?_
 refine cI (N4 (T := 135) (sz := 2) (bytes := 16) i58.2 z3 (by omega) N8 rfl (S.p1.offArr z3) rfl ?_ (by omega) (by omega)) ?_
 ·rintro rfl
  rcases S.p1.off with ⟨_, h1⟩ | ⟨b, cap, pre, cs, post, h1, _⟩
  ·exact h1
  ·cases h1
 rintro v h' ⟨ho, hf, _⟩
 refine Wa ?_
 have S := (S.ownNew hf ho).toOff
 obtain ⟨A', c', rfl⟩ := S.offSl
 refine Wa ?_
 (revert S; (try clear F); refine AL fun u h S F => ?_)
 refine Wa ?_
 exact hK _ _ ⟨u, rfl, St.tim.2 ⟨_, (St.tim.2 ⟨_, S.p3.p3⟩).p2.p2⟩⟩
end
end
end Go.Proofs.YtcgbhcgfdcfmaaaGreat.MX
