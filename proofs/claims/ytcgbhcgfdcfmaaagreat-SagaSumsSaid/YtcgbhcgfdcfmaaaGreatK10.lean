import Derived.Test.YtcgbhcgfdcfmaaaGreatK08
import Derived.Test.YtcgbhcgfdcfmaaaGreatK09
import Derived.Test.YtcgbhcgfdcfmaaaGreatK07
import Derived.OpenShut
import Derived.Deep.Slices
import Derived.SizedLaws
namespace Go.Proofs.YtcgbhcgfdcfmaaaGreat.MX
open Go Go.Proofs
set_option linter.unusedSimpArgs false
set_option linter.unusedVariables false
section
section
variable {α : Type} {F : α → HP} {h0 h : c9} {l : List HP} {X : HP} {zs : List α} {n : Nat}
theorem a8M (hn : n < zs.length) (S : St h0 h (X :: (zs.map F ++ l))) : St h0 h (F zs[n] :: X :: ((zs.take n ++ zs.drop (n + 1)).map F ++ l)) := by
 refine S.perm ?_
 have e : zs = zs.take n ++ zs[n] :: zs.drop (n + 1) := by rw [← U6 hn, C6]
 conv => lhs; rw [e]
 rw [N5, N5, G0, l_q, l_q, l_j]
 exact (List.Perm.cons X List.perm_middle).trans (List.Perm.swap _ _ _)
theorem b0Y {z : α} (hn : n < zs.length) (S : St h0 h (F z :: X :: ((zs.take n ++ zs.drop (n + 1)).map F ++ l))) : St h0 h (X :: ((zs.set n z).map F ++ l)) := by
 refine S.perm ?_
 rw [List.set_eq_take_append_cons_drop, if_pos hn, N5, N5, G0, l_q, l_q, l_j]
 exact (List.Perm.swap _ _ _).trans (List.Perm.cons X List.perm_middle.symm)
theorem b4r {z : α} (hn : n < zs.length) (S : St h0 h (X :: F z :: (zs.map F ++ l))) : St h0 h (X :: ((zs.set n z).map F ++ l)) := by
 have S1 : St h0 h (X :: (zs.map F ++ (F z :: l))) := S.perm (List.Perm.cons X List.perm_middle.symm)
 have S2 := (a8M hn S1).tl
 have S3 : St h0 h (F z :: X :: ((zs.take n ++ zs.drop (n + 1)).map F ++ l)) := S2.perm ((List.Perm.cons X List.perm_middle).trans (List.Perm.swap _ _ _))
 exact b0Y hn S3
end
theorem St.dropL {h0 h : c9} {l : List HP} : ∀ {ps : List HP}, St h0 h (ps ++ l) → St h0 h l
 | [], S => S
 | _ :: ps, S => St.dropL (ps := ps) S.tl
theorem St.cap {α : Type} {enc : α → List Value} {sz T : Nat} {h0 h : c9} {l : List HP} {A : Option Addr} {n c : Nat} {xs : List α} (S : St h0 h (f9 enc sz T (.slice A n c) xs :: l)) : n = xs.length ∧ n ≤ c ∧ c < 9223372036854775808 := by
 rcases S.own with ⟨hv, rfl⟩ | ⟨b, cap, cs, hv, _, hle, h63, _⟩
 ·injection hv with e1 e2 e3
  subst e1 e2 e3
  simp
 ·injection hv with e1 e2 e3
  subst e1 e2 e3
  exact ⟨rfl, hle, h63⟩
section
variable {α : Type} {enc : α → List Value} {sz T : Nat} {h0 h : c9} {l : List HP} {xs : List α}
theorem St.ownAt {A : Option Addr} {n c : Nat} (S : St h0 h (f9 enc sz T (.slice A n c) xs :: l)) (hne : 0 < xs.length) : ∃ b, A = some ⟨b, 0, none⟩ := by
 rcases S.own with ⟨_, rfl⟩ | ⟨b, cap, cs, hv, _⟩
 ·simp at hne
 ·injection hv with e1 e2 e3
  exact ⟨b, e1⟩
theorem a9A (hsz : ∀ x, (enc x).length = sz) {i j : Nat} {vs cs : List Value} {x : α} (hi : i < xs.length) (hj : j + vs.length ≤ sz) (hx : enc x = t7 (enc xs[i]) j vs) :
  t7 (xs.flatMap enc ++ cs) (i * sz + j) vs = (xs.set i x).flatMap enc ++ cs := by
 have hlt : ((xs.take i).flatMap enc).length = i * sz := by rw [fL hsz, u6, Nat.min_eq_left (by omega)]
 have h1 : xs.flatMap enc = (xs.take i).flatMap enc ++ (enc xs[i] ++ (xs.drop (i + 1)).flatMap enc) := by
  rw [K6 enc xs i, U6 hi, T0]
 have he : enc xs[i] = (enc xs[i]).take j ++ (enc xs[i]).drop j := (C6 _ _).symm
 have hjl : ((enc xs[i]).take j).length = j := by rw [u6, hsz]; omega
 have hdl : ((enc xs[i]).drop j).length = sz - j := by rw [H8, hsz]
 have hx2 : enc x = (enc xs[i]).take j ++ vs ++ ((enc xs[i]).drop j).drop vs.length := by
  rw [hx]
  conv => lhs; rw [he]
  exact s7 _ _ [] j hjl.symm vs (by omega)
 have e1 : xs.flatMap enc ++ cs = ((xs.take i).flatMap enc ++ (enc xs[i]).take j) ++ ((enc xs[i]).drop j ++ ((xs.drop (i + 1)).flatMap enc ++ cs)) := by
  rw [h1]
  conv => lhs; rw [he]
  simp only [l_q]
 rw [e1, s7 _ _ [] (i * sz + j) (by rw [l_m, hlt, hjl]) vs (by rw [l_m]; omega), List.drop_append_of_le_length (by omega), List.set_eq_take_append_cons_drop, if_pos hi, a0V, T0, hx2]
 simp only [l_q]
theorem D9 (hsz : ∀ x, (enc x).length = sz) {b n c i j off m : Nat} {x : α} {vs : List Value} {K : Value → c9 → Prop} {s : Tag h} {t : Tag K} (S : St h0 h (f9 enc sz T (.slice (some ⟨b, 0, none⟩) n c) xs :: l))
  (hi : i < xs.length) (hoff : off = i * sz + j) (hj : j + vs.length ≤ sz) (hm : vs.length = m) (hpl : pC vs = true) (hx : enc x = t7 (enc xs[i]) j vs)
  (hk : ∀ h', St h0 h' (f9 enc sz T (.slice (some ⟨b, 0, none⟩) n c) (xs.set i x) :: l) → K undef h') : Q8 m (.pointer (some ⟨b, off, none⟩)) vs h K s t := by
 have ho := S.own
 rcases ho with ⟨hv, _⟩ | ⟨b', cap, cs, hv, _, hle, h63, hblk, hln⟩
 ·cases hv
 injection hv with e1 e2 e3
 cases e1
 subst e2 e3
 have hfl := fL hsz xs
 have hroom : i * sz + sz ≤ xs.length * sz := by
  have := Z0 sz (show i + 1 ≤ xs.length from hi)
  rwa [Nat.succ_mul] at this
 rw [sT, hblk]
 simp only [a9r]
 refine ⟨⟨hm, hpl, ?_⟩, ?_⟩
 ·rw [b1k (by rw [l_m, hfl]; omega)]
  trivial
 ·rw [hoff, a9A hsz hi hj hx]
  have hb := B6 hblk
  refine hk _ (S.ownUp ((Fr.refl _ _).set (.inl (by simp [i0])) _) ?_ (fun b hb => .inl hb))
  refine .inr ⟨b, c, cs, by rw [P0], Nat.zero_le _, by rw [P0]; exact hle, h63, F0 hb, ?_⟩
  rw [l_m, fL hsz, P0, ← hfl, ← l_m]
  exact hln
theorem u3 (hsz : ∀ x, (enc x).length = sz) {b n c i off m : Nat} {x : α} {vs : List Value} {K : Value → c9 → Prop} {s : Tag h} {t : Tag K} (S : St h0 h (f9 enc sz T (.slice (some ⟨b, 0, none⟩) n c) xs :: l))
  (hi : i < xs.length) (hoff : off = i * sz) (hvs : vs = enc x) (hm : sz = m) (hpl : pC vs = true)
  (hk : ∀ h', St h0 h' (f9 enc sz T (.slice (some ⟨b, 0, none⟩) n c) (xs.set i x) :: l) → K undef h') : Q8 m (.pointer (some ⟨b, off, none⟩)) vs h K s t := by
 subst hvs
 refine D9 hsz (j := 0) S hi hoff (by rw [hsz]; omega) (by rw [hsz]; exact hm) hpl ?_ hk
 have := s7 [] (enc xs[i]) [] 0 rfl (enc x) (by rw [hsz, hsz]; exact v8 _)
 rw [l_k, l_k, List.drop_of_length_le (by rw [hsz, hsz]; exact v8 _), C4] at this
 exact this.symm
end
theorem pm0 { x : HP} {t M : List HP} (h : (t).Perm M) : (x :: t).Perm (x :: M) := (n9 [] x t).trans (List.Perm.cons x h)
theorem pm1 {a x : HP} {t M : List HP} (h : (a :: t).Perm M) : (a :: x :: t).Perm (x :: M) := (n9 [a] x t).trans (List.Perm.cons x h)
theorem pm2 {a b x : HP} {t M : List HP} (h : (a :: b :: t).Perm M) : (a :: b :: x :: t).Perm (x :: M) := (n9 [a, b] x t).trans (List.Perm.cons x h)
theorem pm3 {a b c x : HP} {t M : List HP} (h : (a :: b :: c :: t).Perm M) : (a :: b :: c :: x :: t).Perm (x :: M) := (n9 [a, b, c] x t).trans (List.Perm.cons x h)
theorem pm4 {a b c d x : HP} {t M : List HP} (h : (a :: b :: c :: d :: t).Perm M) : (a :: b :: c :: d :: x :: t).Perm (x :: M) := (n9 [a, b, c, d] x t).trans (List.Perm.cons x h)
theorem pm5 {a b c d e x : HP} {t M : List HP} (h : (a :: b :: c :: d :: e :: t).Perm M) : (a :: b :: c :: d :: e :: x :: t).Perm (x :: M) := (n9 [a, b, c, d, e] x t).trans (List.Perm.cons x h)
theorem pm6 {a b c d e f x : HP} {t M : List HP} (h : (a :: b :: c :: d :: e :: f :: t).Perm M) : (a :: b :: c :: d :: e :: f :: x :: t).Perm (x :: M) := (n9 [a, b, c, d, e, f] x t).trans (List.Perm.cons x h)
theorem pm7 {a b c d e f g x : HP} {t M : List HP} (h : (a :: b :: c :: d :: e :: f :: g :: t).Perm M) : (a :: b :: c :: d :: e :: f :: g :: x :: t).Perm (x :: M) := (n9 [a, b, c, d, e, f, g] x t).trans (List.Perm.cons x h)
theorem pm8 {a b c d e f g i x : HP} {t M : List HP} (h : (a :: b :: c :: d :: e :: f :: g :: i :: t).Perm M) : (a :: b :: c :: d :: e :: f :: g :: i :: x :: t).Perm (x :: M) := (n9 [a, b, c, d, e, f, g, i] x t).trans (List.Perm.cons x h)
theorem pm9 {a b c d e f g i j x : HP} {t M : List HP} (h : (a :: b :: c :: d :: e :: f :: g :: i :: j :: t).Perm M) : (a :: b :: c :: d :: e :: f :: g :: i :: j :: x :: t).Perm (x :: M) := (n9 [a, b, c, d, e, f, g, i, j] x t).trans (List.Perm.cons x h)
theorem pm10 {a b c d e f g i j k x : HP} {t M : List HP} (h : (a :: b :: c :: d :: e :: f :: g :: i :: j :: k :: t).Perm M) : (a :: b :: c :: d :: e :: f :: g :: i :: j :: k :: x :: t).Perm (x :: M) := (n9 [a, b, c, d, e, f, g, i, j, k] x t).trans (List.Perm.cons x h)
theorem pm11 {a b c d e f g i j k m x : HP} {t M : List HP} (h : (a :: b :: c :: d :: e :: f :: g :: i :: j :: k :: m :: t).Perm M) : (a :: b :: c :: d :: e :: f :: g :: i :: j :: k :: m :: x :: t).Perm (x :: M) := (n9 [a, b, c, d, e, f, g, i, j, k, m] x t).trans (List.Perm.cons x h)
theorem pm12 {a b c d e f g i j k m n x : HP} {t M : List HP} (h : (a :: b :: c :: d :: e :: f :: g :: i :: j :: k :: m :: n :: t).Perm M) : (a :: b :: c :: d :: e :: f :: g :: i :: j :: k :: m :: n :: x :: t).Perm (x :: M) := (n9 [a, b, c, d, e, f, g, i, j, k, m, n] x t).trans (List.Perm.cons x h)
theorem St.cellOwn {α : Type} {enc : α → List Value} {sz : Nat} (hsz : ∀ x, (enc x).length = sz) {h0 h : c9} {l : List HP} {b T : Nat} {ys : List α} {cs : List Value} (S : St h0 h (f8 b cs T :: l)) (hc : cs = ys.flatMap enc) (hl : ys.length < 9223372036854775808) : St h0 h (f9 enc sz T (.slice (some ⟨b, 0, none⟩) ys.length ys.length) ys :: l) := by
 obtain ⟨B, ⟨hB, hb⟩, _, hup⟩ := S.hd
 subst hB
 refine hup _ _ [b] (Fr.refl _ _) ⟨rfl, .inr ⟨b, ys.length, [], rfl, Nat.zero_le _, v8 _, hl, ?_, ?_⟩⟩ (fun b' hm => .inl hm)
 ·rw [C4, hb, hc]
 ·rw [C4, fL hsz]
theorem dI {P : Program} {Q : D5 → Env → c9 → Prop} {ρ : Env} {h : c9} {l : List j2} {s : Sch} {t1 : Tag l} {t2 : Tag s} {t3 : Tag Q} {t4 : Tag ρ} {t5 : Tag h} (I : c9 → Prop) (hI : I h) (hw : M0 P I l (Q .normal) s ρ h) : a6m P l s Q ρ h t1 t2 t3 t4 t5 := ⟨I, hI, hw⟩
theorem b8g {F : c9 → Option Value} {v : Value} {K : Value → Prop} {t : Tag K} (h : c9) (hF : F h = some v) : n6 (fun h' => F h' = some v) F K t = K v := by
 apply propext
 constructor
 ·rintro ⟨u, h1, h2⟩
  have := h1 h hF
  rw [hF] at this
  cases this
  exact h2
 ·exact fun hk => ⟨v, fun _ e => e, hk⟩
theorem rI {I : c9 → Prop} {F : c9 → Option Value} {v : Value} {K : Value → Prop} {t : Tag K} (hI : ∀ h', I h' → F h' = some v) (h : c9) (hh : I h) : n6 I F K t = K v := by
 apply propext
 constructor
 ·rintro ⟨u, h1, h2⟩
  have := h1 h hh
  rw [hI h hh] at this
  cases this
  exact h2
 ·exact fun hk => ⟨v, hI, hk⟩
theorem cC {P : Program} {b : Bool} {x y : j3} {T : Env → c9 → Prop} {Q : D5 → Env → c9 → Prop} {ρ : Env} {h : c9} {s : Tag (mwp P x (Q6 T Q) ρ h)} {t : Tag (mwp P y (Q6 T Q) ρ h)} (I : Env → c9 → Prop)
  (hX : b = true → ∀ J : Env → c9 → Prop, (∀ ρ h, I ρ h → J ρ h) → mwp P x (Q6 J Q) ρ h) (hY : b = false → ∀ J : Env → c9 → Prop, (∀ ρ h, I ρ h → J ρ h) → mwp P y (Q6 J Q) ρ h) (hT : ∀ ρ h, I ρ h → T ρ h) :
  X4 (.bool b) (mwp P x (Q6 T Q) ρ h) (mwp P y (Q6 T Q) ρ h) s t := by
 cases b
 ·simp only [X4, a0Q, Bool.false_eq_true, if_false]; exact hY rfl T hT
 ·simp only [X4, a0Q, if_true]; exact hX rfl T hT
theorem a7A {P : Program} {a b : j3} {Q : D5 → Env → c9 → Prop} {ρ : Env} {h : c9} (I : Env → c9 → Prop) (hw : ∀ J : Env → c9 → Prop, (∀ ρ h, I ρ h → J ρ h) → mwp P a (Q6 J Q) ρ h) (hT : ∀ ρ h, I ρ h → mwp P b Q ρ h) : mwp P (.seq a b) Q ρ h := hw _ hT
theorem cS {P : Program} {Q : D5 → Env → c9 → Prop} {ρ : Env} {h0 h : c9} {L : List HP} {l : List j2} {s : Sch} {t1 : Tag l} {t2 : Tag s} {t3 : Tag Q} {t4 : Tag ρ} {t5 : Tag h} (S : St h0 h L) (I : Env → c9 → Prop)
  (hw : ∀ J : Env → c9 → Prop, (∀ ρ h, I ρ h → J ρ h) → M0 P (fun h' => St h0 h' L) l J s ρ h) (hT : ∀ ρ h, I ρ h → Q .normal ρ h) : a6m P l s Q ρ h t1 t2 t3 t4 t5 := ⟨_, S, hw _ hT⟩
theorem PM {h0 h : c9} {l M : List HP} (S : St h0 h l) (e : l.Perm M := by (repeat (with_reducible first | exact List.Perm.refl _ | refine pm0 ?_ | refine pm1 ?_ | refine pm2 ?_ | refine pm3 ?_ | refine pm4 ?_ | refine pm5 ?_ | refine pm6 ?_ | refine pm7 ?_ | refine pm8 ?_ | refine pm9 ?_ | refine pm10 ?_ | refine pm11 ?_ | refine pm12 ?_))) : St h0 h M := S.perm e
end
section
open Go Go.RowKit
theorem b7W {P : Program} {f : FuncId} {args : List Value} {W : World} (hc : d8 P f args W.heap fun v h' => v = .bool true ∧ Fr W.heap h' []) :
  Calls P f args.toArray W fun e w' => e = .returned (.bool true) ∧ Below W.heap.size W w' := by
 refine (hc W rfl).mono ?_
 rintro e w' ⟨v, rfl, ha, rfl, hf⟩
 exact ⟨rfl, ha.1, ha.2.1, ha.2.2, hf.size, fun k hk => hf.same k hk (by simp)⟩
theorem v7 {n : Int} (h : (Lit.int .i64 n).wf = true) : -9223372036854775808 ≤ n ∧ n < 9223372036854775808 := by
 simp [Lit.wf, IntKind.min, IntKind.max, IntKind.signed, IntKind.bits] at h
 omega
end
section
open Go Go.ChangeShapes Go.Deep
def a1P (P : Program) (h : c9) : Nat → TypeId → List Value → Prop
 | 0, _, _ => False
 | d + 1, t, cs =>
  (∀ k, P.underlying t = some (.int k) → ∃ n, cs = [.int k n] ∧ (Lit.int k n).wf = true) ∧
  (P.underlying t = some .bool → ∃ b, cs = [.bool b]) ∧
  (P.underlying t = some .string → ∃ s, cs = [.string s] ∧ s.size ≤ maxLen) ∧
  (∀ fs, P.underlying t = some (.struct fs) → cs.length = P.cellsOf t ∧ ∀ (j : Nat) f, fs[j]? = some f → a1P P h d f.type ((cs.drop f.offset).take (P.cellsOf f.type))) ∧
  (∀ n e, P.underlying t = some (.array n e) → cs.length = P.cellsOf t ∧ ∀ i, i < n → a1P P h d e ((cs.drop (i * P.cellsOf e)).take (P.cellsOf e))) ∧
  (∀ e, P.underlying t = some (.slice e) → cs = [.slice none 0 0] ∨ ∃ (a : Addr) (len cap : Nat), cs = [.slice (some a) len cap] ∧ len ≤ cap ∧ cap ≤ maxLen ∧ len * P.bytesOf e ≤ reachBytes ∧
   ∀ i, i < len → ∃ cs', (0 < P.cellsOf e → a.spot = none ∧ rdN h a.block (a.off + i * P.cellsOf e) (P.cellsOf e) = some cs') ∧ a1P P h d e cs')
theorem a7k {w : World} {b off n : Nat} {cs : List Value} (h0 : 0 < n) (hl : cs.length = n) (hc : ∀ i, i < n → w.cell? ⟨b, off + i, none⟩ = cs[i]?) : rdN w.heap b off n = some cs := by
 have hsome : ∀ i, i < n → ∃ v, w.cell? ⟨b, off + i, none⟩ = some v := fun i hi => ⟨cs[i]'(by omega), by rw [hc i hi, l_r (by omega)]⟩
 obtain ⟨c, e, f, hb⟩ : ∃ c e f, w.heap[b]? = some (.cells c e f) := by
  obtain ⟨v, hv⟩ := hsome 0 h0
  unfold World.cell? at hv
  split at hv
  ·rename_i c e f hb; exact ⟨c, e, f, hb⟩
  ·cases hv
 have hget : ∀ i, i < n → c.toList[off + i]? = cs[i]? := fun i hi => by
  rw [← hc i hi]
  simp [World.cell?, hb]
 have hle : off + n ≤ c.toList.length := by
  obtain ⟨v, hv⟩ := hsome (n - 1) (by omega)
  have := hget (n - 1) (by omega)
  rw [← hc _ (by omega), hv] at this
  have := (List.getElem?_eq_some_iff.1 this).1
  omega
 have hblk : blk w.heap b = some (c.toList, e, f) := by simp [blk, hb]
 rw [F4 hblk hle]
 congr 1
 apply List.ext_getElem?
 intro i
 rw [List.getElem?_take, List.getElem?_drop]
 by_cases hi : i < n
 ·rw [if_pos hi, hget i hi]
 ·rw [if_neg hi, a3b (by omega)]
section
variable {H : Type} {enc : TypeId × Value → H} {P : Program} {w : World} {spare : Nat → Bool} {held : Bool}
theorem R4 {e : TypeId} {n : Nat} : ∀ {ds : List (DataW H)} {j : Nat} {d : DataW H}, ds[j]? = some d → n ∈ d.weights P e → n ∈ DataW.weightsAll P e ds
 | [], _, _, hd, _ => by simp at hd
 | d0 :: ds, 0, d, hd, hn => by
  simp only [l_o, Option.some.injEq] at hd
  subst hd
  simp only [DataW.weightsAll, l_y]
  exact .inl hn
 | d0 :: ds, j + 1, d, hd, hn => by
  simp only [l_p] at hd
  simp only [DataW.weightsAll, l_y]
  exact .inr (R4 hd hn)
theorem wts {ts : List TypeId} {ds : List (DataW H)} (h : (DataW.weightsEach P ts ds).all (· ≤ reachBytes) = true) {j : Nat} {t : TypeId} {d : DataW H} (ht : ts[j]? = some t) (hd : ds[j]? = some d) : ∀ n ∈ d.weights P t, n ≤ reachBytes := fun n hn => by
 have := List.all_eq_true.1 h _ (DataW.weights_mem_each ht hd n hn)
 simpa using this
theorem a2H : ∀ (fuel : Nat) {t : TypeId} {cs : List Value} {x : DataW H × List MemPlace}, DataW.trod enc P w 0 spare held fuel t cs = some x → (∀ n ∈ x.1.weights P t, n ≤ reachBytes) → a1P P w.heap fuel t cs
 | 0, t, cs, x, h, _ => by simp [DataW.trod] at h
 | d + 1, t, cs, x, h, hw => by
  refine ⟨fun k hu => ?_, fun hu => ?_, fun hu => ?_, fun fs hu => ?_, fun n e hu => ?_, fun e hu => ?_⟩
  ·unfold DataW.trod at h
   rw [hu] at h
   split at h <;> first | (rename_i heq; cases heq; done) | (rename_i heq _; cases heq; done) | skip
   all_goals first | (cases h; done) | skip
   ·rename_i k k' n heq
    cases heq
    split at h
    ·rename_i hk; obtain ⟨rfl, hw⟩ := hk; exact ⟨n, rfl, hw⟩
    ·cases h
  ·unfold DataW.trod at h
   rw [hu] at h
   split at h <;> first | (rename_i heq; cases heq; done) | (rename_i heq _; cases heq; done) | skip
   all_goals first | (cases h; done) | skip
   ·exact ⟨_, rfl⟩
  ·unfold DataW.trod at h
   rw [hu] at h
   split at h <;> first | (rename_i heq; cases heq; done) | (rename_i heq _; cases heq; done) | skip
   all_goals first | (cases h; done) | skip
   ·rename_i s heq
    split at h
    ·rename_i hs; exact ⟨s, rfl, hs⟩
    ·cases h
  ·obtain ⟨xs, n, hn, hx, hl, hlen, hf⟩ := DataW.trod_struct hu h
   cases hn
   subst hx
   simp only [DataW.weights, hu] at hw
   refine ⟨hl, fun j f hj => ?_⟩
   have hjl : j < xs.length := by rw [hlen]; exact (Array.getElem?_eq_some_iff.1 hj).1
   have := hf j f hj
   rw [l_r hjl] at this
   refine a2H d this fun n hn => hw n (DataW.weights_mem_each (j := j) (t := f.type) (by rw [a1R, a4l, hj]; rfl) (by rw [a1R, l_r hjl]; rfl) n hn)
  ·obtain ⟨xs, m, hm, hx, hl, hlen, hf⟩ := DataW.trod_array hu h
   cases hm
   subst hx
   simp only [DataW.weights, hu] at hw
   refine ⟨hl, fun i hi => ?_⟩
   have := hf i hi
   rw [l_r (by omega)] at this
   exact a2H d this fun n hn => hw n (R4 (j := i) (by rw [a1R, l_r (by omega)]; rfl) hn)
  ·rcases DataW.trod_slice hu h with ⟨h0, _⟩ | ⟨a, len, cap, elems, rest, n, hn, hcs, hx, _, hl, hm, hlen, hel, _⟩
   ·exact .inl h0
   ·cases hn
    subst hx
    simp only [DataW.weights, hu, l_z] at hw
    have hwl := hw _ (l_n ..)
    refine .inr ⟨a, len, cap, hcs, hl, hm, U3 (Z0 _ (by omega)) hwl, fun i hi => ?_⟩
    obtain ⟨cs', hc, ht⟩ := by
     have := hel i hi
     rw [l_r (by omega)] at this
     exact Option.bind_eq_some_iff.1 this
    refine ⟨cs', fun h0 => ?_, a2H d ht fun n hn => hw n (l_l _ (a0z _ (R4 (j := i) (by rw [a1R, l_r (by omega)]; rfl) hn)))⟩
    obtain ⟨_, hcl, hat⟩ := World.cells?_some hc
    have hspot : a.spot = none := by
     obtain ⟨cs0, hc0, _⟩ := by
      have := hel 0 (by omega)
      rw [l_r (by omega)] at this
      exact Option.bind_eq_some_iff.1 this
     obtain ⟨_, hcl0, hat0⟩ := World.cells?_some hc0
     have h1 := hat0 0 h0
     rw [l_r (by omega)] at h1
     have h2 : (a.add (0 * P.cellsOf e)).add 0 = a := by simp [Addr.add]
     rw [h2] at h1
     cases hs : a.spot with
     | none => rfl
     | some s =>
      exfalso
      unfold World.cell? at h1
      rw [hs] at h1
      split at h1 <;> simp at h1
    refine ⟨hspot, ?_⟩
    obtain ⟨ab, ao, asp⟩ := a
    cases hspot
    refine a7k h0 hcl fun i' hi' => ?_
    rw [← hat i' hi']
    simp only [K1]
end
end
section
open Go Go.ChangeShapes Go.Deep
inductive LK where
 | int (k : IntKind) | bool | str | slice (e : TypeId)
 deriving DecidableEq
def a4u (lv : TypeId → Option (List LK)) (P : Program) : List Field → Nat → Option (List LK)
 | [], _ => some []
 | f :: fs, off => if f.offset = off then (lv f.type).bind fun l => if l.length = P.cellsOf f.type then (a4u lv P fs (off + l.length)).map (l ++ ·) else none else none
def V2 (P : Program) : Nat → TypeId → Option (List LK)
 | 0, _ => none
 | n + 1, t => match P.underlying t with
  | some (.int k) => some [.int k]
  | some .bool => some [.bool]
  | some .string => some [.str]
  | some (.slice e) => some [.slice e]
  | some (.struct fs) => (a4u (V2 P n) P fs.toList 0).bind fun l => if l.length = P.cellsOf t then some l else none
  | some (.array m e) => (V2 P n e).bind fun l => if l.length = P.cellsOf e ∧ P.cellsOf t = m * P.cellsOf e then some (List.replicate m l).flatten else none
  | _ => none
def a0P (P : Program) (h : c9) (e : TypeId) (v : Value) : Prop :=
 v = .slice none 0 0 ∨ ∃ (a : Addr) (len cap d : Nat), v = .slice (some a) len cap ∧ len ≤ cap ∧ cap ≤ maxLen ∧ len * P.bytesOf e ≤ reachBytes ∧
  ∀ i, i < len → ∃ cs', (0 < P.cellsOf e → a.spot = none ∧ rdN h a.block (a.off + i * P.cellsOf e) (P.cellsOf e) = some cs') ∧ a1P P h d e cs'
def v4 (P : Program) (h : c9) : List LK → List Value → Prop
 | [], cs => cs = []
 | .int k :: ls, cs => ∃ n cs', cs = .int k n :: cs' ∧ (Lit.int k n).wf = true ∧ v4 P h ls cs'
 | .bool :: ls, cs => ∃ b cs', cs = .bool b :: cs' ∧ v4 P h ls cs'
 | .str :: ls, cs => ∃ s cs', cs = .string s :: cs' ∧ s.size ≤ maxLen ∧ v4 P h ls cs'
 | .slice e :: ls, cs => ∃ v cs', cs = v :: cs' ∧ a0P P h e v ∧ v4 P h ls cs'
variable {P : Program} {h : c9}
theorem v4.append {l2 : List LK} {c2 : List Value} (h2 : v4 P h l2 c2) : ∀ {l1 : List LK} {c1 : List Value}, v4 P h l1 c1 → v4 P h (l1 ++ l2) (c1 ++ c2)
 | [], c1, h1 => by cases h1; exact h2
 | .int k :: ls, c1, h1 => by obtain ⟨n, cs, rfl, w, hh⟩ := h1; exact ⟨n, cs ++ c2, rfl, w, v4.append h2 hh⟩
 | .bool :: ls, c1, h1 => by obtain ⟨n, cs, rfl, hh⟩ := h1; exact ⟨n, cs ++ c2, rfl, v4.append h2 hh⟩
 | .str :: ls, c1, h1 => by obtain ⟨n, cs, rfl, w, hh⟩ := h1; exact ⟨n, cs ++ c2, rfl, w, v4.append h2 hh⟩
 | .slice e :: ls, c1, h1 => by obtain ⟨n, cs, rfl, w, hh⟩ := h1; exact ⟨n, cs ++ c2, rfl, w, v4.append h2 hh⟩
theorem a6E {lv : TypeId → Option (List LK)} {Q : TypeId → List Value → Prop} {cs : List Value} (hlv : ∀ t c l, Q t c → lv t = some l → v4 P h l c) :
  ∀ {fs : List Field} {off : Nat} {ls : List LK}, a4u lv P fs off = some ls → off + ls.length = cs.length →
  (∀ (j : Nat) f, fs[j]? = some f → Q f.type ((cs.drop f.offset).take (P.cellsOf f.type))) → v4 P h ls (cs.drop off)
 | [], off, ls, hl, hn, hq => by
  cases hl
  simp at hn
  subst hn
  simp [v4]
 | f :: fs, off, ls, hl, hn, hq => by
  unfold a4u at hl
  split at hl
  ·rename_i ho
   obtain ⟨l, h1, h2⟩ := Option.bind_eq_some_iff.1 hl
   split at h2
   ·rename_i hc
    obtain ⟨l2, h3, rfl⟩ := Option.map_eq_some_iff.1 h2
    have q0 := hlv _ _ _ (hq 0 f rfl) h1
    rw [ho, ← hc] at q0
    have q1 := a6E hlv h3 (by simp at hn; omega) (fun j f' hj => hq (j + 1) f' (by simpa using hj))
    have := v4.append q1 q0
    rwa [show (cs.drop off).take l.length ++ cs.drop (off + l.length) = cs.drop off by rw [← List.drop_drop, C6]] at this
   ·cases h2
  ·cases hl
theorem b1x {l : List LK} {cs : List Value} : ∀ {m k : Nat}, (k + m) * l.length = cs.length → (∀ i, i < k + m → v4 P h l ((cs.drop (i * l.length)).take l.length)) → v4 P h (List.replicate m l).flatten (cs.drop (k * l.length))
 | 0, k, hn, hq => by simp at hn; simp [v4, hn]
 | m + 1, k, hn, hq => by
  have q0 := hq k (by omega)
  have q1 := b1x (l := l) (cs := cs) (m := m) (k := k + 1) (by rw [← hn]; congr 1; omega) (fun i hi => hq i (by omega))
  have := v4.append q1 q0
  rw [List.replicate_succ, List.flatten_cons]
  rwa [show (cs.drop (k * l.length)).take l.length ++ cs.drop ((k + 1) * l.length) = cs.drop (k * l.length) by rw [Nat.succ_mul, ← List.drop_drop, C6]] at this
theorem v4.len : ∀ {ls : List LK} {cs : List Value}, v4 P h ls cs → cs.length = ls.length
 | [], _, hh => by cases hh; rfl
 | .int k :: ls, c1, h1 => by obtain ⟨n, cs, rfl, w, hh⟩ := h1; simp [hh.len]
 | .bool :: ls, c1, h1 => by obtain ⟨n, cs, rfl, hh⟩ := h1; simp [hh.len]
 | .str :: ls, c1, h1 => by obtain ⟨n, cs, rfl, w, hh⟩ := h1; simp [hh.len]
 | .slice e :: ls, c1, h1 => by obtain ⟨n, cs, rfl, w, hh⟩ := h1; simp [hh.len]
theorem G1 : ∀ (n : Nat) {d : Nat} {t : TypeId} {cs : List Value} {ls : List LK}, a1P P h d t cs → V2 P n t = some ls → v4 P h ls cs
 | 0, _, _, _, _, _, hl => by cases hl
 | n + 1, 0, _, _, _, hg, _ => hg.elim
 | n + 1, d + 1, t, cs, ls, hg, hl => by
  obtain ⟨gi, gb, gs, gf, ga, gl⟩ := hg
  unfold V2 at hl
  split at hl
  ·rename_i k hu; cases hl; obtain ⟨m, rfl, w⟩ := gi k hu; exact ⟨m, [], rfl, w, rfl⟩
  ·rename_i hu; cases hl; obtain ⟨b, rfl⟩ := gb hu; exact ⟨b, [], rfl, rfl⟩
  ·rename_i hu; cases hl; obtain ⟨s, rfl, w⟩ := gs hu; exact ⟨s, [], rfl, w, rfl⟩
  ·rename_i e hu
   cases hl
   rcases gl e hu with rfl | ⟨a, len, cap, rfl, h1, h2, hz, h3⟩
   ·exact ⟨_, [], rfl, .inl rfl, rfl⟩
   ·exact ⟨_, [], rfl, .inr ⟨a, len, cap, d, rfl, h1, h2, hz, h3⟩, rfl⟩
  ·rename_i fs hu
   obtain ⟨l, h1, h2⟩ := Option.bind_eq_some_iff.1 hl
   split at h2
   ·rename_i hc
    cases h2
    obtain ⟨hlen, hq⟩ := gf fs hu
    have := a6E (P := P) (h := h) (Q := a1P P h d) (cs := cs) (fun t c l hg' hl' => G1 n hg' hl') h1 (by omega) (fun j f hj => hq j f (by simpa using hj))
    simpa using this
   ·cases h2
  ·rename_i m e hu
   obtain ⟨l, h1, h2⟩ := Option.bind_eq_some_iff.1 hl
   split at h2
   ·rename_i hc
    cases h2
    obtain ⟨hlen, hq⟩ := ga m e hu
    have := b1x (P := P) (h := h) (l := l) (cs := cs) (m := m) (k := 0) (by rw [hlen, hc.2, hc.1]; simp) (fun i hi => by have := G1 n (hq i (by omega)) h1; rwa [hc.1])
    simpa using this
   ·cases h2
  ·cases hl
theorem a0P.arrZ {α : Type} {enc : α → List Value} {ok : α → Prop} {e sz : Nat} (hsz : P.cellsOf e = sz) (h0 : 0 < sz) {v : Value} (hg : a0P P h e v)
  (hel : ∀ {d : Nat} {cs : List Value}, a1P P h d e cs → ∃ x, cs = enc x ∧ ok x) :
  ∃ (A : Option Addr) (c : Nat) (xs : List α), v = .slice A xs.length c ∧ Arr enc sz h A xs ∧ xs.length ≤ c ∧ c ≤ maxLen ∧ xs.length * P.bytesOf e ≤ reachBytes ∧ ∀ x ∈ xs, ok x := by
 subst hsz
 rcases hg with rfl | ⟨a, len, cap, d, rfl, h1, h2, hz, h3⟩
 ·exact ⟨none, 0, [], rfl, Arr.nil _ _ _ _, v8 _, by decide, by simp [reachBytes], by simp⟩
 ·have hx : ∀ i, i < len → ∃ x, (a.spot = none ∧ rdN h a.block (a.off + i * P.cellsOf e) (P.cellsOf e) = some (enc x)) ∧ ok x := fun i hi => by
   obtain ⟨cs, hr, hgd⟩ := h3 i hi
   obtain ⟨x, rfl, hok⟩ := hel hgd
   exact ⟨x, hr h0, hok⟩
  have : ∀ m, m ≤ len → ∃ xs : List α, xs.length = m ∧ ∀ i (hi : i < xs.length), (a.spot = none ∧ rdN h a.block (a.off + i * P.cellsOf e) (P.cellsOf e) = some (enc xs[i])) ∧ ok xs[i] := by
   intro m
   induction m with
   | zero => exact fun _ => ⟨[], rfl, fun i hi => absurd hi (by simp)⟩
   | succ m ih =>
    intro hm
    obtain ⟨xs, hl, hh⟩ := ih (by omega)
    obtain ⟨x, hxx⟩ := hx m (by omega)
    refine ⟨xs ++ [x], by simp [hl], fun i hi => ?_⟩
    by_cases hi' : i < xs.length
    ·rw [List.getElem_append_left hi']; exact hh i hi'
    ·have : i = m := by simp at hi; omega
     subst this
     rw [List.getElem_append_right (by omega)]
     simpa using hxx
  obtain ⟨xs, rfl, hh⟩ := this len (v8 _)
  refine ⟨some a, cap, xs, rfl, fun i hi => ?_, h1, h2, hz, fun x hx => ?_⟩
  ·obtain ⟨⟨hs, hr⟩, _⟩ := hh i hi
   obtain ⟨ab, ao, asp⟩ := a
   cases hs
   exact ⟨ab, ao, rfl, hr⟩
  ·obtain ⟨i, hi, rfl⟩ := a0q hx
   exact (hh i hi).2
theorem a0P.arr {α : Type} {enc : α → List Value} {ok : α → Prop} {e sz : Nat} (hsz : P.cellsOf e = sz) (h0 : 0 < sz) {v : Value} (hg : a0P P h e v)
  (hel : ∀ {d : Nat} {cs : List Value}, a1P P h d e cs → ∃ x, cs = enc x ∧ ok x) :
  ∃ (A : Option Addr) (c : Nat) (xs : List α), v = .slice A xs.length c ∧ Arr enc sz h A xs ∧ xs.length ≤ c ∧ c ≤ maxLen ∧ ∀ x ∈ xs, ok x := by
 obtain ⟨A, c, xs, h1, h2, h3, h4, _, h5⟩ := a0P.arrZ hsz h0 hg hel
 exact ⟨A, c, xs, h1, h2, h3, h4, h5⟩
end
end Go.Proofs.YtcgbhcgfdcfmaaaGreat.MX
