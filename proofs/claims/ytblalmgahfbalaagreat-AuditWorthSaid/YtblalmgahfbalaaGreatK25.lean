/- Texts in one file: Od10, Au1, Ob1, Ob2, Ob3, Ob4. -/
import Derived.Test.YtblalmgahfbalaaGreatK24
import Derived.Test.YtblalmgahfbalaaGreatK18
import Derived.Test.YtblalmgahfbalaaGreatK07
import Derived.Test.YtblalmgahfbalaaGreatIR
import Derived.Test.YtblalmgahfbalaaGreatK09

/- Orders: what the shares of an order come to, in plain words. -/
namespace Go.Proofs.YtblalmgahfbalaaGreat.MX
open Go Go.Proofs
set_option linter.unusedSimpArgs false
set_option linter.unusedVariables false
set_option maxHeartbeats 4000000
theorem perm_sum {α : Type} (f : α → Nat) {a b : List α} (h : a.Perm b) : (a.map f).sum = (b.map f).sum := by
  induction h with
  | nil => rfl
  | cons x _ ih => simp only [List.map_cons, List.sum_cons, ih]
  | swap x y l => simp only [List.map_cons, List.sum_cons]; omega
  | trans _ _ ih1 ih2 => rw [ih1, ih2]
theorem sum_le_mul {α : Type} (f : α → Nat) (M : Nat) : ∀ {T : List α}, (∀ z ∈ T, f z ≤ M) → (T.map f).sum ≤ T.length * M ∧ ∀ x ∈ T, f x = 0 → (T.map f).sum + M ≤ T.length * M
  | [], _ => ⟨by simp, fun x hx => by cases hx⟩
  | y :: T, h => by
    obtain ⟨h1, h2⟩ := sum_le_mul f M (T := T) fun z hz => h z (by simp [hz])
    have hy := h y (by simp)
    simp only [List.map_cons, List.sum_cons, List.length_cons, Nat.succ_mul]
    refine ⟨by omega, fun x hx h0 => ?_⟩
    rcases List.mem_cons.1 hx with rfl | hx
    · omega
    · have := h2 x hx h0; omega
theorem IsShares.le {sum all : Nat} {ws : List Nat} {out : List Int} (H : IsShares sum all ws out) (hall : 0 < all) (he : ws.sum = all) (hle : sum ≤ all) : ∀ i (hi : i < ws.length), out.getD i 0 ≤ (ws[i] : Nat) := by
  obtain ⟨Z, hp, hs, rfl⟩ := H
  obtain ⟨hl1, hl2⟩ := left_law hall he (sum := sum)
  have hZl : Z.length = ws.length := by rw [hp.length_eq, natsI_len]
  have hql : ((quoW sum all ws).map Int.ofNat).length = ws.length := by rw [List.length_map, quoW_len]
  have hZd : ∀ z ∈ Z, 0 ≤ z ∧ z < (((quoW sum all ws).map Int.ofNat).length : Int) := fun z hz => by rw [hql]; exact natsI_mem.1 (hp.mem_iff.1 hz)
  have hZn : Z.Nodup := hp.nodup_iff.2 (natsI_nodup _)
  have htd : ∀ z ∈ Z.take (sum - (quoW sum all ws).sum), 0 ≤ z ∧ z < (((quoW sum all ws).map Int.ofNat).length : Int) := fun z hz => hZd z (List.mem_of_mem_take hz)
  have hg := bump_get _ _ (hZn.sublist (List.take_sublist (sum - (quoW sum all ws).sum) Z)) htd
  intro i hi
  have hq : ((quoW sum all ws).map Int.ofNat).getD i 0 = ((sum * ws[i] / all : Nat) : Int) := by
    rw [List.getD_eq_getElem?_getD, List.getElem?_eq_getElem (by rw [hql]; exact hi)]
    simp only [quoW, List.getElem_map]
    rfl
  rw [hg i (by rw [hql]; exact hi), hq]
  have hqr := quo_rest sum all ws
  rw [he] at hqr
  by_cases c1 : sum = all
  · have hqw : quoW sum all ws = ws := by
      rw [quoW, c1]
      conv => rhs; rw [← List.map_id ws]
      exact List.map_congr_left fun w _ => by rw [Nat.mul_comm, Nat.mul_div_cancel _ hall]; rfl
    rw [hqw, he, c1, Nat.sub_self, List.take_zero, if_neg (by simp), Nat.mul_comm, Nat.mul_div_cancel _ hall]
    omega
  · by_cases c2 : ws[i] = 0
    · rw [if_neg, c2, Nat.mul_zero, Nat.zero_div]
      · simp
      · intro hm
        have hr0 : (restW sum all ws).getD ((i : Int).toNat) 0 = 0 := by
          simp only [Int.toNat_natCast, restW, List.getD_eq_getElem?_getD, List.getElem?_map, List.getElem?_eq_getElem hi, c2]
          simp
        have hrl : ∀ z : Int, (restW sum all ws).getD z.toNat 0 ≤ all - 1 := fun z => by
          rw [List.getD_eq_getElem?_getD, restW, List.getElem?_map]
          cases ws[z.toNat]? with
          | none => simp
          | some w =>
            have := Nat.mod_lt (sum * w) hall
            simp only [Option.map_some, Option.getD_some]
            omega
        have hsz : (Z.map fun z : Int => (restW sum all ws).getD z.toNat 0).sum = (restW sum all ws).sum := by
          rw [perm_sum _ hp]
          congr 1
          apply List.ext_getElem
          · simp [natsI, restW]
          · intro k h1 h2
            simp only [natsI, List.getElem_map, List.getElem_range]
            show (restW sum all ws).getD ((k : Int).toNat) 0 = _
            rw [Int.toNat_natCast, List.getD_eq_getElem?_getD, List.getElem?_eq_getElem h2]
            rfl
        have hcut : (Z.map fun z : Int => (restW sum all ws).getD z.toNat 0).sum = ((Z.take (sum - (quoW sum all ws).sum)).map fun z : Int => (restW sum all ws).getD z.toNat 0).sum + ((Z.drop (sum - (quoW sum all ws).sum)).map fun z : Int => (restW sum all ws).getD z.toNat 0).sum := by
          conv => lhs; rw [← List.take_append_drop (sum - (quoW sum all ws).sum) Z, List.map_append, List.sum_append]
        have hdr : ∀ z ∈ Z.drop (sum - (quoW sum all ws).sum), (restW sum all ws).getD z.toNat 0 ≤ 0 := fun z hz => by
          rw [← List.take_append_drop (sum - (quoW sum all ws).sum) Z] at hs
          have hrk := (List.pairwise_append.1 hs).2.2 _ hm z hz
          unfold Rk at hrk
          simp only at hrk
          omega
        have h3 := (sum_le_mul (fun z : Int => (restW sum all ws).getD z.toNat 0) 0 hdr).1
        have h4 := (sum_le_mul (fun z : Int => (restW sum all ws).getD z.toNat 0) (all - 1) (T := Z.take (sum - (quoW sum all ws).sum)) fun z _ => hrl z).2 _ hm hr0
        rw [List.length_take, Nat.min_eq_left (by omega)] at h4
        obtain ⟨d, hd⟩ : ∃ d, sum = (quoW sum all ws).sum + d := ⟨sum - (quoW sum all ws).sum, by omega⟩
        have hd2 : sum - (quoW sum all ws).sum = d := by omega
        rw [hd2] at h3 h4 hcut hm
        obtain ⟨m, hm1⟩ : ∃ m, all = m + 1 := ⟨all - 1, by omega⟩
        have h5 : d * all = (restW sum all ws).sum := by
          have h6 : sum * all = (quoW sum all ws).sum * all + d * all := by
            conv => lhs; rw [hd, Nat.add_mul]
          omega
        rw [hsz] at hcut
        have h7 : d * all = d * (all - 1) + d := by rw [hm1, Nat.add_sub_cancel, Nat.mul_succ]
        have h8 : d = 0 := by omega
        rw [h8] at hm
        simp at hm
    · have hlt : sum * ws[i] < all * ws[i] := Nat.mul_lt_mul_of_pos_right (by omega) (by omega)
      have hq2 : sum * ws[i] / all < ws[i] := (Nat.div_lt_iff_lt_mul hall).2 (by rw [Nat.mul_comm (ws[i])]; exact hlt)
      split <;> omega
theorem shF_le {s : Nat} {P : List Int} (hask : askS s P = 0) (hle : (s : Int) ≤ P.sum) {k : Nat} (hk : k < P.length) (hk2 : k < (shF s P).length) : (shF s P)[k] ≤ P[k] := by
  obtain ⟨hw0, hw1, hf, hs0, hs1, hs2, hs3⟩ := ask0 hask
  by_cases hz : P.sum = 0
  · have h0 : s = 0 := by omega
    have := (shF_len hask).2.2 _ (List.getElem_mem hk2)
    have hp := (hf _ (List.getElem_mem hk)).1
    omega
  · obtain ⟨hep, _⟩ := effW_pos hask
    have he : effW P = P.map Int.toNat := by unfold effW; rw [if_neg hz]
    have hsum := sumI (P.map Int.toNat)
    rw [toNat_back hf] at hsum
    have hb := (shF_is s P).le hep rfl (by rw [he]; omega) k (by rw [effW_len]; exact hk)
    rw [List.getD_eq_getElem?_getD, List.getElem?_eq_getElem hk2] at hb
    simp only [Option.getD_some, he, List.getElem_map] at hb
    have hp := (hf _ (List.getElem_mem hk)).1
    omega
theorem unitsOf_nn {o : Odr} (h : OkO o) (i : Int) : ∀ u ∈ unitsOf o i, 0 ≤ u.share ∧ u.share ≤ 4294967296 := by
  intro u hu
  refine ⟨?_, by have := (unitsR_bound h i 3 u hu).2; omega⟩
  obtain ⟨k, hk, rfl⟩ := List.getElem_of_mem hu
  have hl := unitsR_len h i 3
  have hv := (len_sum o.ls h.count).2.2 i
  have hk' : k < (priceL o.ls).length := by rw [← hl]; exact hk
  have e0 : (psum o 0).toNat = o.disc.toNat := rfl
  have e1 : (psum o 1).toNat = o.tax.toNat := rfl
  have e2 : (psum o 2).toNat = o.ship.toNat := rfl
  have h0 := h.sh 0
  have h1 := h.sh 1
  have h2 := h.sh 2
  rw [e0] at h0
  rw [e1] at h1
  rw [e2] at h2
  rw [unitsOf_at h i (by omega) (by omega) (by omega) (by omega) hk]
  have b1 := h1.2.2 _ (List.getElem_mem (l := shF o.tax.toNat (priceL o.ls)) (n := k) (by omega))
  have b2 := h2.2.2 _ (List.getElem_mem (l := shF o.ship.toNat (priceL o.ls)) (n := k) (by omega))
  have hask := h.ask h.disc
  have hd0 := h.disc.1
  rw [← Int.toNat_of_nonneg hd0] at hask
  have b0 := shF_le hask (by rw [(len_sum o.ls h.count).2.1, Int.toNat_of_nonneg hd0]; exact h.le) hk' (by omega)
  have hp : ((expandU i o.ls)[k]'(by omega)).share = (priceL o.ls)[k] := by
    have := hv.2
    simp only [← this, List.getElem_map]
  show 0 ≤ ((expandU i o.ls)[k]'(by omega)).share - _ + _ + _
  rw [hp]
  omega
theorem units_nn {C : Cfg} (hok : okCfg C) : ∀ u ∈ unitsAll C, 0 ≤ u.share ∧ u.share ≤ 4294967296 := by
  intro u hu
  rw [unitsAll, List.mem_append] at hu
  rcases hu with hu | hu
  · have : ∀ (os : List Odr) (j : Nat), (∀ o ∈ os, OkO o) → ∀ u ∈ ordsU j os, 0 ≤ u.share ∧ u.share ≤ 4294967296 := by
      intro os
      induction os with
      | nil => intro j _ u hu; cases hu
      | cons o os ih =>
        intro j h u hu
        rw [ordsU, List.mem_append] at hu
        rcases hu with hu | hu
        · exact unitsOf_nn (h o (by simp)) j u hu
        · exact ih (j + 1) (fun x hx => h x (by simp [hx])) u hu
    exact this C.os 0 hok.okO u hu
  · simp only [List.mem_flatMap, supU, List.mem_replicate] at hu
    obtain ⟨s, hs, _, rfl⟩ := hu
    have := (hok.2.2.2.2.1.1 s hs).2.1
    exact ⟨this.1, by have := this.2; show s.price ≤ _; omega⟩
end Go.Proofs.YtblalmgahfbalaaGreat.MX

/- The audit: what a return's graded units are worth. -/
namespace Go.Proofs.YtblalmgahfbalaaGreat.MX
open Go Go.Proofs
set_option linter.unusedSimpArgs false
set_option linter.unusedVariables false
set_option maxHeartbeats 8000000
def polOf (ps : List Pol) (k : Int) : Pol := if 0 ≤ k then ps.getD k.toNat Pol.zero else Pol.zero
def untAt (U : List Unt) (u : Int) : Unt := U.getD u.toNat ⟨0, 0, 0, 0⟩
def unitW (ps : List Pol) (U : List Unt) (rea u g : Int) : Int := if g = 4 then (untAt U u).share else if 0 ≤ g then wrt (polOf ps (untAt U u).cat) (untAt U u).share rea g else 0
def worthTo (ps : List Pol) (U : List Unt) (r : Ret) (i : Nat) : Int := (((r.us.zip r.gs).take i).map fun x => unitW ps U r.rea x.1 x.2).sum
def worthOf (ps : List Pol) (U : List Unt) (r : Ret) : Int := ((r.us.zip r.gs).map fun x => unitW ps U r.rea x.1 x.2).sum
theorem zero_right : Pol.zero.right := by
  simp [Pol.right, Pol.zero, okPts, okGrade]
theorem polOf_right {ps : List Pol} (h : RightT ps) (k : Int) : (polOf ps k).right := by
  unfold polOf
  split
  · rw [List.getD_eq_getElem?_getD]
    by_cases hk : k.toNat < ps.length
    · rw [List.getElem?_eq_getElem hk]; exact h.2 _ (List.getElem_mem hk)
    · rw [List.getElem?_eq_none (by omega)]; exact zero_right
  · exact zero_right
theorem polOf_at {ps : List Pol} {i : Nat} (hi : i < ps.length) : polOf ps (i : Int) = ps[i] := by
  rw [polOf, if_pos (by omega), Int.toNat_natCast, List.getD_eq_getElem?_getD, List.getElem?_eq_getElem hi]; rfl
theorem polOf_out {ps : List Pol} {k : Int} (hk : k < 0 ∨ (ps.length : Int) ≤ k) : polOf ps k = Pol.zero := by
  unfold polOf
  split
  · rw [List.getD_eq_getElem?_getD, List.getElem?_eq_none (by omega)]; rfl
  · rfl
def shOk (U : List Unt) : Prop := ∀ u ∈ U, 0 ≤ u.share ∧ u.share ≤ 4294967296
theorem untAt_share {U : List Unt} (h : shOk U) (u : Int) : 0 ≤ (untAt U u).share ∧ (untAt U u).share ≤ 4294967296 := by
  unfold untAt
  rw [List.getD_eq_getElem?_getD]
  by_cases hk : u.toNat < U.length
  · rw [List.getElem?_eq_getElem hk]; exact h _ (List.getElem_mem hk)
  · rw [List.getElem?_eq_none (by omega)]; exact ⟨by decide, by decide⟩
theorem unitW_bound {ps : List Pol} {U : List Unt} (hp : RightT ps) (hU : shOk U) (rea u g : Int) : 0 ≤ unitW ps U rea u g ∧ unitW ps U rea u g ≤ 4294967296 := by
  have h1 := untAt_share hU u
  unfold unitW
  split
  · exact h1
  · split
    · have := wrt_bound (p := polOf ps (untAt U u).cat) (sh := (untAt U u).share) (r := rea) (g := g) (polOf_right hp _) h1.1
      omega
    · omega
theorem worthTo_snoc {ps : List Pol} {U : List Unt} {r : Ret} {i : Nat} (hl : r.gs.length = r.us.length) (hi : i < r.us.length) : worthTo ps U r (i + 1) = worthTo ps U r i + unitW ps U r.rea (r.us.getD i 0) (r.gs.getD i 0) := by
  have hz : i < (r.us.zip r.gs).length := by rw [List.length_zip]; omega
  unfold worthTo
  rw [List.take_succ_eq_append_getElem hz, List.map_append, List.sum_append, getD_at hi, getD_at (show i < r.gs.length by omega)]
  simp
theorem worthTo_all {ps : List Pol} {U : List Unt} {r : Ret} (hl : r.gs.length = r.us.length) : worthTo ps U r r.us.length = worthOf ps U r := by
  unfold worthTo worthOf
  rw [List.take_of_length_le (by rw [List.length_zip]; omega)]
theorem worthTo_bound {ps : List Pol} {U : List Unt} {r : Ret} (hp : RightT ps) (hU : shOk U) (i : Nat) : 0 ≤ worthTo ps U r i ∧ worthTo ps U r i ≤ 4294967296 * i := by
  have h : ∀ l : List (Int × Int), 0 ≤ (l.map fun x => unitW ps U r.rea x.1 x.2).sum ∧ (l.map fun x => unitW ps U r.rea x.1 x.2).sum ≤ 4294967296 * l.length := by
    intro l
    induction l with
    | nil => simp
    | cons x l ih =>
      have := unitW_bound hp hU r.rea x.1 x.2
      rw [List.map_cons, List.sum_cons, List.length_cons]
      omega
  have h1 := h ((r.us.zip r.gs).take i)
  have h2 : ((r.us.zip r.gs).take i).length ≤ i := by rw [List.length_take]; omega
  unfold worthTo
  omega
theorem OfP_ok {h0 h : Heap} {l : List HP} {A : Option Addr} {c : Nat} {xs : List Pol} (S : St h0 h l) (ha : ∀ h', St h0 h' l → Arr Pol.enc 16 h' A xs) (k : Int) :
    CallsH Tryz.prog 49 [.slice A xs.length c, .int .i64 k] h fun v h' => St h0 h' l ∧ ∃ e, v = .tuple #[.agg (polOf xs k).enc.toArray, .int .i64 e] := by
  refine (Of_ok S ha k).mono ?_
  rintro v h' ⟨S, ⟨i, hi, rfl, rfl⟩ | ⟨hk, rfl⟩⟩
  · exact ⟨S, 0, by rw [polOf_at hi]⟩
  · exact ⟨S, 10, by rw [polOf_out hk]⟩
set_option maxHeartbeats 16000000 in
theorem aworth_ok {h0 : Heap} {D : Cfg} {U : List Unt} {x : RetV} {A : Option Addr} {c : Nat} (rp : Arr Pol.enc 16 h0 D.A3 D.ps) (ru : Arr Unt.enc 4 h0 A U) (ha : Arr zEnc 1 h0 x.A x.r.us) (hb : Arr zEnc 1 h0 x.B x.r.gs)
    (hp : RightT D.ps) (hU : shOk U) (hrea : isR x.r.rea) (hou : okUnits x.r.us x.r.gs) (hin : ∀ v ∈ x.r.us, v < U.length) :
    CallsH Tryz.prog 20 [.agg D.enc.toArray, .slice A U.length c, .agg x.enc.toArray] h0 fun v h' => v = .int .i64 (worthOf D.ps U x.r) ∧ Fr h0 h' [] := by
  have S := St.nil h0
  obtain ⟨n1, n2, hall⟩ := hou
  have rp' : ∀ {h' : Heap} {l : List HP}, St h0 h' l → Arr Pol.enc 16 h' D.A3 D.ps := fun S => rp.fr S.fr (by simp)
  have ru' : ∀ {h' : Heap} {l : List HP}, St h0 h' l → Arr Unt.enc 4 h' A U := fun S => ru.fr S.fr (by simp)
  have ha' : ∀ {h' : Heap} {l : List HP}, St h0 h' l → Arr zEnc 1 h' x.A x.r.us := fun S => ha.fr S.fr (by simp)
  have hb' : ∀ {h' : Heap} {l : List HP}, St h0 h' l → Arr zEnc 1 h' x.B x.r.gs := fun S => hb.fr S.fr (by simp)
  have hw0 : worthTo D.ps U x.r 0 = 0 := by simp [worthTo]
  (refine enterK c_audit_worth (Nat.le_of_ble_eq_true rfl) fun K hK => ?_; (try simp (maxSteps := 1000000) (disch := first | omega | assumption | exact Nat.le_of_ble_eq_true rfl) only [go_sem, ↓mwp_block, simprocAttr, ir_audit_worth]))
  (refine st_alloc S ?_; clear S; intro g h S; (try simp only [splice_cons, splice_nil, List.set_cons_zero, List.set_cons_succ, Nat.zero_add, Nat.reduceAdd, List.cons_append, List.nil_append] at S); ((try clear F); have F := S.all; (try simp only [all_cons, all_nil, says_cell, and_true] at F)))
  (try simp (maxSteps := 1000000) (disch := first | omega | assumption | exact Nat.le_of_ble_eq_true rfl) only [go_sem, ↓mwp_block, simprocAttr])
  (refine st_alloc S ?_; clear S; intro b h S; (try simp only [splice_cons, splice_nil, List.set_cons_zero, List.set_cons_succ, Nat.zero_add, Nat.reduceAdd, List.cons_append, List.nil_append] at S); ((try clear F); have F := S.all; (try simp only [all_cons, all_nil, says_cell, and_true] at F)))
  (try simp (maxSteps := 1000000) (disch := first | omega | assumption | exact Nat.le_of_ble_eq_true rfl) only [go_sem, ↓mwp_block, simprocAttr, F, RetV.enc])
  refine loop_intro (fun ρ h' => ρ 1 = .slice A U.length c ∧ ρ 3 = .pointer (some ⟨g, 0, none⟩) ∧ ρ 5 = .pointer (some ⟨b, 0, none⟩) ∧ ρ 16 = .slice x.A x.r.us.length x.c ∧ ρ 17 = .int .i64 x.r.us.length ∧ ∃ i : Nat, ρ 18 = .int .i64 i ∧ i ≤ x.r.us.length ∧ ρ 7 = .int .i64 (worthTo D.ps U x.r i) ∧
    St h0 h' [cellA b x.enc 35, cellA g D.enc 26]) (fun ρ _ => x.r.us.length - (iv (ρ 18)).toNat) ?_ ?_
  · (try simp (maxSteps := 1000000) (disch := first | omega | assumption | exact Nat.le_of_ble_eq_true rfl) only [go_sem, ↓mwp_block, simprocAttr])
    exact ⟨0, rfl, by omega, by rw [hw0], S⟩
  clear S F
  rintro ρ h J hJ ⟨e1, e3, e5, e16, e17, i, e18, hi, e7, S⟩
  (try simp (maxSteps := 1000000) (disch := first | omega | assumption | exact Nat.le_of_ble_eq_true rfl) only [go_sem, ↓mwp_block, simprocAttr, e17, e18])
  refine cond_dec (fun hlt => ?_) (fun hlt => ?_)
  · have hil : i < x.r.us.length := by omega
    obtain ⟨b1, o1, hA1, q1⟩ := (ha' S).at hil
    obtain ⟨b2, o2, hA2, q2⟩ := (hb' S).at (i := i) (by omega)
    have q1 := rd1_part0 q1 (by omega)
    have q2 := rd1_part0 q2 (by omega)
    simp only [zEnc, List.getElem?_cons_zero, Nat.mul_one] at q1 q2
    have hlt' := hin _ (List.getElem_mem hil)
    rw [← getD_at] at q1 q2 hlt'
    obtain ⟨c1, _, c2⟩ := hall i hil
    have hsn := worthTo_snoc (ps := D.ps) (U := U) (r := x.r) n2 hil
    have hbd := worthTo_bound (r := x.r) hp hU i
    have hn200 := n1.2
    obtain ⟨j, hj⟩ := Int.eq_ofNat_of_zero_le c1.1
    rw [hj] at q1 hlt' hsn
    have hjl : j < U.length := by omega
    have hat : untAt U (j : Int) = U[j] := by rw [untAt, Int.toNat_natCast, List.getD_eq_getElem?_getD, List.getElem?_eq_getElem hjl]; rfl
    have hsh := hU _ (List.getElem_mem hjl)
    have hqU : ∀ {h' : Heap} {l : List HP}, St h0 h' l → ∃ b4 o4, A = some ⟨b4, o4, none⟩ ∧ rd1 h' (.pointer (some ⟨b4, o4 + j * 4 + 2, none⟩)) = some (.int .i64 U[j].cat) ∧ rd1 h' (.pointer (some ⟨b4, o4 + j * 4 + 3, none⟩)) = some (.int .i64 U[j].share) := fun S => by
      obtain ⟨b4, o4, hA4, q4⟩ := (ru' S).at hjl
      have p2 := rd1_part q4 2 (by omega)
      have p3 := rd1_part q4 3 (by omega)
      simp only [Unt.enc, List.getElem?_cons_zero, List.getElem?_cons_succ] at p2 p3
      exact ⟨b4, o4, hA4, p2, p3⟩
    obtain ⟨b4, o4, hA4, _, p3⟩ := hqU S
    have hqU : ∀ {h' : Heap} {l : List HP}, St h0 h' l → rd1 h' (.pointer (some ⟨b4, o4 + j * 4 + 2, none⟩)) = some (.int .i64 U[j].cat) ∧ rd1 h' (.pointer (some ⟨b4, o4 + j * 4 + 3, none⟩)) = some (.int .i64 U[j].share) := fun S => by
      obtain ⟨b5, o5, hA5, hh⟩ := hqU S
      rw [hA4] at hA5
      cases hA5
      exact hh
    generalize U[j] = z at *
    generalize x.r.gs.getD i 0 = gv at *
    by_cases d1 : gv = 4
    · have hu : unitW D.ps U x.r.rea (j : Int) gv = z.share := by rw [unitW, if_pos d1, hat]
      rw [hu] at hsn
      ((try clear F); have F := S.all; (try simp only [all_cons, all_nil, says_cell, and_true] at F))
      (try simp (maxSteps := 1000000) (disch := first | omega | assumption | exact Nat.le_of_ble_eq_true rfl) only [go_sem, ↓mwp_block, simprocAttr, e1, e5, e7, e16, e18, F, RetV.enc, hA1, hA2, hA4, q1, q2, p3, d1, Nat.mul_one])
      refine hJ _ _ ?_ ?_
      · (try simp (maxSteps := 1000000) (disch := first | omega | assumption | exact Nat.le_of_ble_eq_true rfl) only [go_sem, ↓mwp_block, simprocAttr, e1, e3, e5, e16, e17, hA1, hA4])
        exact ⟨i + 1, rfl, by omega, by rw [hsn], S⟩
      · (try simp (maxSteps := 1000000) (disch := first | omega | assumption | exact Nat.le_of_ble_eq_true rfl) only [go_sem, ↓mwp_block, simprocAttr, e18])
        omega
    by_cases d2 : 0 ≤ gv
    · have hu : unitW D.ps U x.r.rea (j : Int) gv = wrt (polOf D.ps z.cat) z.share x.r.rea gv := by rw [unitW, if_neg d1, if_pos d2, hat]
      rw [hu] at hsn
      have hPr := polOf_right hp z.cat
      have hwb := wrt_bound (r := x.r.rea) (g := gv) hPr hsh.1
      generalize hP : polOf D.ps z.cat = P at *
      ((try clear F); have F := S.all; (try simp only [all_cons, all_nil, says_cell, and_true] at F))
      (try simp (maxSteps := 1000000) (disch := first | omega | assumption | exact Nat.le_of_ble_eq_true rfl) only [go_sem, ↓mwp_block, simprocAttr, e1, e5, e7, e16, e18, F, RetV.enc, hA1, hA2, hA4, q1, q2, d1, d2, Nat.mul_one])
      refine cut_st S (fun ρ' h' => ρ' 1 = .slice A U.length c ∧ ρ' 3 = .pointer (some ⟨g, 0, none⟩) ∧ ρ' 5 = .pointer (some ⟨b, 0, none⟩) ∧ ρ' 7 = .int .i64 (worthTo D.ps U x.r i) ∧ ρ' 9 = .int .i64 j ∧ ρ' 10 = .int .i64 gv ∧ ρ' 16 = .slice x.A x.r.us.length x.c ∧ ρ' 17 = .int .i64 x.r.us.length ∧ ρ' 18 = .int .i64 i ∧ ∃ q, ρ' 11 = .pointer (some ⟨q, 0, none⟩) ∧
        St h0 h' [cellA q P.enc 48, cellA b x.enc 35, cellA g D.enc 26]) ?_ ?_
      · intro J' hJ'
        have rx : ∀ K t, readT (fun h' => St h0 h' [cellA b x.enc 35, cellA g D.enc 26]) (fun h' => rd1 h' (.pointer (some ⟨g, 2, none⟩))) K t = K (.slice D.A3 D.ps.length D.c3) := fun K t => readT_I (fun h' S => st_rd1 (off := 2) S.p1) h S
        have ry : ∀ K t, readT (fun h' => St h0 h' [cellA b x.enc 35, cellA g D.enc 26]) (fun h' => rd1 h' (.pointer (some ⟨b4, o4 + j * 4 + 2, none⟩))) K t = K (.int .i64 z.cat) := fun K t => readT_I (fun h' S => (hqU S).1) h S
        (try simp (maxSteps := 1000000) (disch := first | omega | assumption | exact Nat.le_of_ble_eq_true rfl) only [go_sem, ↓mwp_block, simprocAttr, e1, e3, hA4, rx, ry])
        refine ⟨?_, ?_⟩
        · refine call_intro (OfP_ok S (fun h' S => rp' S) z.cat) ?_
          clear S F rx ry
          rintro _ h ⟨S, e, rfl⟩
          rw [hP]
          (try simp (maxSteps := 1000000) (disch := first | omega | assumption | exact Nat.le_of_ble_eq_true rfl) only [go_sem, ↓mwp_block, simprocAttr])
          (refine st_alloc S ?_; clear S; intro q h S; (try simp only [splice_cons, splice_nil, List.set_cons_zero, List.set_cons_succ, Nat.zero_add, Nat.reduceAdd, List.cons_append, List.nil_append] at S); ((try clear F); have F := S.all; (try simp only [all_cons, all_nil, says_cell, and_true] at F)))
          refine ⟨S.tl, ?_⟩
          (try simp (maxSteps := 1000000) (disch := first | omega | assumption | exact Nat.le_of_ble_eq_true rfl) only [go_sem, ↓mwp_block, simprocAttr])
          (refine st_store (by first | exact S | exact S.p1 | exact S.p2 | exact S.p3 | exact S.p4 | exact S.p5 | exact S.p6 | exact S.p7 | exact S.p8 | exact S.p9 | exact S.p10 | exact S.p11) (by rfl) (by rfl) (Nat.le_of_ble_eq_true rfl) ?_; clear S; intro h S; (try simp only [splice_cons, splice_nil, List.set_cons_zero, List.set_cons_succ, Nat.zero_add, Nat.reduceAdd, List.cons_append, List.nil_append] at S); ((try clear F); have F := S.all; (try simp only [all_cons, all_nil, says_cell, and_true] at F)))
          refine hJ' _ _ ?_
          (try simp (maxSteps := 1000000) (disch := first | omega | assumption | exact Nat.le_of_ble_eq_true rfl) only [go_sem, ↓mwp_block, simprocAttr, e1, e3, e5, e7, e16, e17, e18, hA1, hA4])
          exact ⟨q, rfl, S⟩
        · (refine st_alloc S ?_; clear S; intro q h S; (try simp only [splice_cons, splice_nil, List.set_cons_zero, List.set_cons_succ, Nat.zero_add, Nat.reduceAdd, List.cons_append, List.nil_append] at S); ((try clear F); have F := S.all; (try simp only [all_cons, all_nil, says_cell, and_true] at F)))
          refine ⟨S.tl, ?_⟩
          (try simp (maxSteps := 1000000) (disch := first | omega | assumption | exact Nat.le_of_ble_eq_true rfl) only [go_sem, ↓mwp_block, simprocAttr])
          refine call_intro (OfP_ok S (fun h' S => rp' S) z.cat) ?_
          clear S F
          rintro _ h ⟨S, e, rfl⟩
          rw [hP]
          (try simp (maxSteps := 1000000) (disch := first | omega | assumption | exact Nat.le_of_ble_eq_true rfl) only [go_sem, ↓mwp_block, simprocAttr])
          (refine st_store (by first | exact S | exact S.p1 | exact S.p2 | exact S.p3 | exact S.p4 | exact S.p5 | exact S.p6 | exact S.p7 | exact S.p8 | exact S.p9 | exact S.p10 | exact S.p11) (by rfl) (by rfl) (Nat.le_of_ble_eq_true rfl) ?_; clear S; intro h S; (try simp only [splice_cons, splice_nil, List.set_cons_zero, List.set_cons_succ, Nat.zero_add, Nat.reduceAdd, List.cons_append, List.nil_append] at S); ((try clear F); have F := S.all; (try simp only [all_cons, all_nil, says_cell, and_true] at F)))
          refine hJ' _ _ ?_
          (try simp (maxSteps := 1000000) (disch := first | omega | assumption | exact Nat.le_of_ble_eq_true rfl) only [go_sem, ↓mwp_block, simprocAttr, e1, e3, e5, e7, e16, e17, e18, hA1, hA4])
          exact ⟨q, rfl, S⟩
      clear S F
      rintro ρ' h ⟨f1, f3, f5, f7, f9, f10, f16, f17, f18, q, f11, S⟩
      have p3 := (hqU S).2
      ((try clear F); have F := S.all; (try simp only [all_cons, all_nil, says_cell, and_true] at F))
      (try simp (maxSteps := 1000000) (disch := first | omega | assumption | exact Nat.le_of_ble_eq_true rfl) only [go_sem, ↓mwp_block, simprocAttr])
      refine draw_eq ?_
      (try simp (maxSteps := 1000000) (disch := first | omega | assumption | exact Nat.le_of_ble_eq_true rfl) only [go_sem, ↓mwp_block, simprocAttr, f1, f5, f9, f10, f11, F, RetV.enc, Pol.enc, hA4, p3])
      refine call_intro (Worth_ok P z.share x.r.rea gv hPr hrea ⟨d2, by have := c2.2; omega⟩ hsh.1 (by omega) _) ?_
      rintro _ h ⟨rfl, f2⟩
      have S := S.frame f2
      (try simp (maxSteps := 1000000) (disch := first | omega | assumption | exact Nat.le_of_ble_eq_true rfl) only [go_sem, ↓mwp_block, simprocAttr, f7, f18])
      refine hJ _ _ ?_ ?_
      · (try simp (maxSteps := 1000000) (disch := first | omega | assumption | exact Nat.le_of_ble_eq_true rfl) only [go_sem, ↓mwp_block, simprocAttr, f1, f3, f5, f16, f17])
        exact ⟨i + 1, rfl, by omega, by rw [hsn], S.tl⟩
      · (try simp (maxSteps := 1000000) (disch := first | omega | assumption | exact Nat.le_of_ble_eq_true rfl) only [go_sem, ↓mwp_block, simprocAttr, e18, f18])
        omega
    · have hu : unitW D.ps U x.r.rea (j : Int) gv = 0 := by rw [unitW, if_neg d1, if_neg d2]
      rw [hu, Int.add_zero] at hsn
      ((try clear F); have F := S.all; (try simp only [all_cons, all_nil, says_cell, and_true] at F))
      (try simp (maxSteps := 1000000) (disch := first | omega | assumption | exact Nat.le_of_ble_eq_true rfl) only [go_sem, ↓mwp_block, simprocAttr, e1, e5, e7, e16, e18, F, RetV.enc, hA1, hA2, q1, q2, d1, d2, Nat.mul_one])
      refine hJ _ _ ?_ ?_
      · (try simp (maxSteps := 1000000) (disch := first | omega | assumption | exact Nat.le_of_ble_eq_true rfl) only [go_sem, ↓mwp_block, simprocAttr, e1, e3, e5, e7, e16, e17, hA1])
        exact ⟨i + 1, rfl, by omega, by rw [hsn], S⟩
      · (try simp (maxSteps := 1000000) (disch := first | omega | assumption | exact Nat.le_of_ble_eq_true rfl) only [go_sem, ↓mwp_block, simprocAttr, e18])
        omega
  obtain rfl : i = x.r.us.length := by omega
  rw [worthTo_all n2] at e7
  (try simp (maxSteps := 1000000) (disch := first | omega | assumption | exact Nat.le_of_ble_eq_true rfl) only [go_sem, ↓mwp_block, simprocAttr, e7])
  exact hK _ _ ⟨rfl, S.fr⟩
theorem last_max {us gs : List Int} (hou : okUnits us gs) {n : Int} (h : us.getD (us.length - 1) 0 < n) : ∀ v ∈ us, v < n := by
  obtain ⟨n1, _, hall⟩ := hou
  have hn := n1.1
  have hmono : ∀ d i, i + d < us.length → us.getD i 0 ≤ us.getD (i + d) 0 := by
    intro d
    induction d with
    | zero => intro i _; exact Int.le_refl _
    | succ d ih =>
      intro i hi
      have h1 := ih i (by omega)
      have h2 := (hall (i + (d + 1)) hi).2.1 (by omega)
      rw [show i + (d + 1) - 1 = i + d by omega] at h2
      omega
  intro v hv
  obtain ⟨k, hk, rfl⟩ := List.getElem_of_mem hv
  have := hmono (us.length - 1 - k) k (by omega)
  rw [show k + (us.length - 1 - k) = us.length - 1 by omega, getD_at hk] at this
  omega
/-- What audit.Worth answers. -/
def worthV (C : Cfg) (r : Ret) : Prop := okCfg C ∧ r.right ∧ r.us.getD (r.us.length - 1) 0 < (unitsAll C).length
theorem AWorth_ok {h0 h : Heap} {l : List HP} (C : Cfg) (x : RetV) (r : ∀ h', St h0 h' l → C.rd h') (w : C.wf) (l1 : C.os.length < 1000000) (l2 : C.ss.length < 1000000) (l3 : C.ps.length < 1000000) (l4 : ∀ o ∈ C.os, o.ls.length < 1000000)
    (ha : ∀ h', St h0 h' l → Arr zEnc 1 h' x.A x.r.us) (hb : ∀ h', St h0 h' l → Arr zEnc 1 h' x.B x.r.gs) (m1 : x.r.us.length < 1000000) (m2 : x.r.gs.length < 1000000) (S : St h0 h l) :
    CallsH Tryz.prog 6 [.agg C.enc.toArray, .agg x.enc.toArray] h fun v h' => ((worthV C x.r ∧ v = .tuple #[.int .i64 (worthOf C.ps (unitsAll C) x.r), .int .i64 0]) ∨ (¬ worthV C x.r ∧ v = .tuple #[.int .i64 0, .int .i64 1])) ∧ St h0 h' l := by
  (refine enterK c_audit_Worth (Nat.le_of_ble_eq_true rfl) fun K hK => ?_; (try simp (maxSteps := 1000000) (disch := first | omega | assumption | exact Nat.le_of_ble_eq_true rfl) only [go_sem, ↓mwp_block, simprocAttr, ir_audit_Worth]))
  (refine st_alloc S ?_; clear S; intro g h S; (try simp only [splice_cons, splice_nil, List.set_cons_zero, List.set_cons_succ, Nat.zero_add, Nat.reduceAdd, List.cons_append, List.nil_append] at S); ((try clear F); have F := S.all; (try simp only [all_cons, all_nil, says_cell, and_true] at F)))
  (try simp (maxSteps := 1000000) (disch := first | omega | assumption | exact Nat.le_of_ble_eq_true rfl) only [go_sem, ↓mwp_block, simprocAttr])
  (refine st_alloc S ?_; clear S; intro b h S; (try simp only [splice_cons, splice_nil, List.set_cons_zero, List.set_cons_succ, Nat.zero_add, Nat.reduceAdd, List.cons_append, List.nil_append] at S); ((try clear F); have F := S.all; (try simp only [all_cons, all_nil, says_cell, and_true] at F)))
  (try simp (maxSteps := 1000000) (disch := first | omega | assumption | exact Nat.le_of_ble_eq_true rfl) only [go_sem, ↓mwp_block, simprocAttr, F, Cfg.enc])
  refine call_intro (OUnits_ok C (fun h' S => r h' S.tl.tl) w l1 l2 l3 l4 S) ?_
  clear S F
  rintro _ h (⟨hok, rfl, S⟩ | ⟨hok, u, rfl, S⟩)
  · (try simp (maxSteps := 1000000) (disch := first | omega | assumption | exact Nat.le_of_ble_eq_true rfl) only [go_sem, ↓mwp_block, simprocAttr])
    exact hK _ _ ⟨.inr ⟨fun h => hok h.1, rfl⟩, S.tl.tl⟩
  obtain ⟨A, c, rfl⟩ := S.sl
  obtain ⟨_, hul⟩ := unitsAll_len hok
  ((try clear F); have F := S.all; (try simp only [all_cons, all_nil, says_cell, and_true] at F))
  (try simp (maxSteps := 1000000) (disch := first | omega | assumption | exact Nat.le_of_ble_eq_true rfl) only [go_sem, ↓mwp_block, simprocAttr, F, RetV.enc])
  refine call_intro (RmaRight_ok x (ha _ S.tl.tl.tl) (hb _ S.tl.tl.tl) m1 m2) ?_
  rintro _ h ⟨rfl, f1⟩
  have S := S.frame f1
  clear f1
  by_cases hr : x.r.right
  case neg =>
    rw [dcd_false hr]
    (try simp (maxSteps := 1000000) (disch := first | omega | assumption | exact Nat.le_of_ble_eq_true rfl) only [go_sem, ↓mwp_block, simprocAttr])
    exact hK _ _ ⟨.inr ⟨fun h => hr h.2.1, rfl⟩, S.tl.tl.tl⟩
  rw [dcd_true hr]
  have hou : okUnits x.r.us x.r.gs := hr.2.2.2.2.2.2.2.1
  have hn1 := hou.1.1
  obtain ⟨n, hn⟩ : ∃ n, x.r.us.length = n + 1 := ⟨x.r.us.length - 1, by omega⟩
  obtain ⟨b1, o1, hA1, q1⟩ := (ha _ S.tl.tl.tl).at (i := n) (by omega)
  have q1 := rd1_part0 q1 (by omega)
  simp only [zEnc, List.getElem?_cons_zero, Nat.mul_one] at q1
  rw [← getD_at] at q1
  have hj1 : ((n + 1 : Nat) : Int) - 1 = (n : Int) := by omega
  have hlast : x.r.us.length - 1 = n := by omega
  ((try clear F); have F := S.all; (try simp only [all_cons, all_nil, says_cell, and_true] at F))
  by_cases hlt : ((unitsAll C).length : Int) ≤ x.r.us.getD n 0
  · (try simp (maxSteps := 1000000) (disch := first | omega | assumption | exact Nat.le_of_ble_eq_true rfl) only [go_sem, ↓mwp_block, simprocAttr, F, RetV.enc, hn, hj1, hA1, q1, Nat.mul_one, hlt])
    exact hK _ _ ⟨.inr ⟨fun h => by have := h.2.2; rw [hlast] at this; omega, rfl⟩, S.tl.tl.tl⟩
  (try simp (maxSteps := 1000000) (disch := first | omega | assumption | exact Nat.le_of_ble_eq_true rfl) only [go_sem, ↓mwp_block, simprocAttr, F, RetV.enc, hn, hj1, hA1, q1, Nat.mul_one, hlt, Cfg.enc])
  have hgood : worthV C x.r := ⟨hok, hr, by rw [hlast]; omega⟩
  have hcall := aworth_ok (D := C) (U := unitsAll C) (x := x) (A := A) (c := c) (r _ S.tl.tl.tl).ps (S.arr Unt.enc_len) (ha _ S.tl.tl.tl) (hb _ S.tl.tl.tl) hok.1 (units_nn hok) ⟨hr.2.2.1.1, by have := hr.2.2.1.2; omega⟩ hou (last_max hou (by rw [hlast]; omega))
  rw [RetV.enc, hn, hA1] at hcall
  refine call_intro hcall ?_
  rintro _ h ⟨rfl, f1⟩
  have S := S.frame f1
  (try simp (maxSteps := 1000000) (disch := first | omega | assumption | exact Nat.le_of_ble_eq_true rfl) only [go_sem, ↓mwp_block, simprocAttr])
  exact hK _ _ ⟨.inl ⟨hgood, rfl⟩, S.tl.tl.tl⟩
end Go.Proofs.YtblalmgahfbalaaGreat.MX

namespace Go.Proofs.YtblalmgahfbalaaGreat.MX
open Go Go.Proofs
set_option linter.unusedSimpArgs false

theorem ONew_ok (h : Heap) : CallsH Tryz.prog 30 [] h fun v h' => ∃ o, v = .pointer (some ⟨o, 0, none⟩) ∧ h.size ≤ o ∧ o < h'.size ∧ blk h' o = some ([.int .i64 1, .slice none 0 0], 128, (0,0)) ∧ Fr h h' [] := by
  refine enterK c_outbox_New (Nat.le_of_ble_eq_true rfl) fun K hK => ?_
  simp (disch := first | omega | assumption | ((repeat' (first | exact Fr.refl _ _ | assumption | (refine Fr.via (by assumption) ?_ (by intro i hi hm; first | exact hm | exact List.mem_cons_of_mem _ hm | exact absurd hm List.not_mem_nil | (simp only [List.mem_cons, List.mem_append, List.not_mem_nil, or_false] at hm ⊢; omega))) | refine Fr.push ?_ _ | (refine Fr.setM ?_ ?_ _; · first | exact List.mem_cons_self | (simp only [List.mem_cons, true_or, or_true]; done)) | (refine Fr.setN ?_ ?_ _; · first | omega | (simp only [Array.size_push, Array.size_setIfInBounds]; omega)))); done) | (simp only [Array.size_push, Array.size_setIfInBounds, List.length_cons, List.length_nil, List.mem_cons, List.not_mem_nil, or_false, false_or, not_false_eq_true, not_or]; done) | (simp only [Array.size_push, Array.size_setIfInBounds, List.length_cons, List.length_nil, List.mem_cons, List.not_mem_nil, or_false, false_or, not_or]; omega)) only [go_sem, ↓mwp_block, ↓e_alloc, ↓e_box, ↓e_bslice, storeT_eq, Nat.reduceEqDiff, Nat.reduceAdd, Nat.reduceMul, Nat.reduceSub, Nat.reduceLeDiff, Nat.reduceLT, reduceIte, Int.reduceLT, Int.reduceLE, Int.reduceAdd, Int.reduceSub, Int.reduceMul, Int.reduceEq, Int.reduceToNat, Int.reduceNeg, Int.reduceNe, ir_outbox_New]
  exact hK _ _ ⟨_, rfl, Nat.le_refl _, by simp, blk_push_new rfl, by ((repeat' (first | exact Fr.refl _ _ | assumption | (refine Fr.via (by assumption) ?_ (by intro i hi hm; first | exact hm | exact List.mem_cons_of_mem _ hm | exact absurd hm List.not_mem_nil | (simp only [List.mem_cons, List.mem_append, List.not_mem_nil, or_false] at hm ⊢; omega))) | refine Fr.push ?_ _ | (refine Fr.setM ?_ ?_ _; · first | exact List.mem_cons_self | (simp only [List.mem_cons, true_or, or_true]; done)) | (refine Fr.setN ?_ ?_ _; · first | omega | (simp only [Array.size_push, Array.size_setIfInBounds]; omega)))); done)⟩

/-- For how many days. -/
def wait (t : Int) : Int := if t < 1 then 0 else if t ≤ 1 then 1 else if t ≤ 2 then 2 else if t ≤ 3 then 4 else 8

/-- A message's cells. -/
structure Msg where
  key : Int
  kind : Int
  rma : Int
  value : Int
  tries : Int
  due : Int
  deriving DecidableEq, Inhabited
def Msg.enc (m : Msg) : List Value := [.int .i64 m.key, .int .i64 m.kind, .int .i64 m.rma, .int .i64 m.value, .int .i64 m.tries, .int .i64 m.due]
def Msg.zero : Msg := ⟨0, 0, 0, 0, 0, 0⟩
theorem enc_len (m : Msg) : m.enc.length = 6 := rfl
theorem enc_plain (m : Msg) : plainCells m.enc = true := rfl

structure IsOb (base : Nat) (h : Heap) (o : Nat) (v : Value) (next : Int) (l : List Msg) : Prop where
  blk : blk h o = some ([.int .i64 next, v], 128, (0, 0))
  ge : base ≤ o
  own : Own Msg.enc 6 107 base h v l
  apart : o ∉ blkOf v
theorem IsOb.lt {base : Nat} {h : Heap} {o : Nat} {v : Value} {next : Int} {l : List Msg} (i : IsOb base h o v next l) : o < h.size := blk_lt i.blk

end Go.Proofs.YtblalmgahfbalaaGreat.MX

/- The outbox: what makes a program that does nothing answer wrongly, and the first law. -/
namespace Go.Proofs.YtblalmgahfbalaaGreat.MX
open Go Go.Proofs
set_option linter.unusedSimpArgs false

end Go.Proofs.YtblalmgahfbalaaGreat.MX

/- The outbox's methods that look: NextKey, All, Waits, Clone; and Heard, Drop. -/
namespace Go.Proofs.YtblalmgahfbalaaGreat.MX
open Go Go.Proofs
set_option linter.unusedSimpArgs false

theorem CloneMsg_ok {h : Heap} {A : Option Addr} {n c : Nat} {xs : List Msg} (ha : Arr Msg.enc 6 h A xs) (hn : n = xs.length) (hA : A = none → xs = []) (hl : xs.length < 1000000000) :
    CallsH Tryz.prog 62 [.slice A n c] h fun v h' => Own Msg.enc 6 107 h.size h' v xs ∧ Fr h h' [] ∧ (A = none → v = .slice none 0 0) :=
  clone_ok (T := 107) (sz := 6) (bytes := 48) c_slices_Clone_outbox_Message_outbox_Message enc_len (by omega) enc_plain rfl ha hn hA (by omega) (by omega)

theorem Own.nilA {α : Type} {enc : α → List Value} {sz T base : Nat} {h : Heap} {A : Option Addr} {n c : Nat} {xs : List α} (ho : Own enc sz T base h (.slice A n c) xs) : A = none → xs = [] := by
  rintro rfl
  rcases ho with ⟨hv, rfl⟩ | ⟨b, cap, cs, hv, _⟩
  · rfl
  · cases hv

theorem OAll_ok {base : Nat} {h : Heap} {o : Nat} {s : Value} {next : Int} {l : List Msg} (hi : IsOb base h o s next l) (hl : l.length < 1000000) :
    CallsH Tryz.prog 43 [.pointer (some ⟨o, 0, none⟩)] h fun v h' => Own Msg.enc 6 107 h.size h' v l ∧ Fr h h' [] := by
  obtain ⟨A, c, rfl⟩ := hi.own.slice
  refine enterK c_outbox_Outbox_All (Nat.le_of_ble_eq_true rfl) fun K hK => ?_
  simp (disch := first | omega | assumption | ((repeat' (first | exact Fr.refl _ _ | assumption | (refine Fr.via (by assumption) ?_ (by intro i hi hm; first | exact hm | exact List.mem_cons_of_mem _ hm | exact absurd hm List.not_mem_nil | (simp only [List.mem_cons, List.mem_append, List.not_mem_nil, or_false] at hm ⊢; omega))) | refine Fr.push ?_ _ | (refine Fr.setM ?_ ?_ _; · first | exact List.mem_cons_self | (simp only [List.mem_cons, true_or, or_true]; done)) | (refine Fr.setN ?_ ?_ _; · first | omega | (simp only [Array.size_push, Array.size_setIfInBounds]; omega)))); done) | (simp only [Array.size_push, Array.size_setIfInBounds, List.length_cons, List.length_nil, List.mem_cons, List.not_mem_nil, or_false, false_or, not_false_eq_true, not_or]; done) | (simp only [Array.size_push, Array.size_setIfInBounds, List.length_cons, List.length_nil, List.mem_cons, List.not_mem_nil, or_false, false_or, not_or]; omega)) only [go_sem, ↓mwp_block, ↓e_alloc, ↓e_box, ↓e_bslice, storeT_eq, Nat.reduceEqDiff, Nat.reduceAdd, Nat.reduceMul, Nat.reduceSub, Nat.reduceLeDiff, Nat.reduceLT, reduceIte, Int.reduceLT, Int.reduceLE, Int.reduceAdd, Int.reduceSub, Int.reduceMul, Int.reduceEq, Int.reduceToNat, Int.reduceNeg, Int.reduceNe, ir_outbox_Outbox_All]
  simp (disch := first | omega | assumption | ((repeat' (first | exact Fr.refl _ _ | assumption | (refine Fr.via (by assumption) ?_ (by intro i hi hm; first | exact hm | exact List.mem_cons_of_mem _ hm | exact absurd hm List.not_mem_nil | (simp only [List.mem_cons, List.mem_append, List.not_mem_nil, or_false] at hm ⊢; omega))) | refine Fr.push ?_ _ | (refine Fr.setM ?_ ?_ _; · first | exact List.mem_cons_self | (simp only [List.mem_cons, true_or, or_true]; done)) | (refine Fr.setN ?_ ?_ _; · first | omega | (simp only [Array.size_push, Array.size_setIfInBounds]; omega)))); done) | (simp only [Array.size_push, Array.size_setIfInBounds, List.length_cons, List.length_nil, List.mem_cons, List.not_mem_nil, or_false, false_or, not_false_eq_true, not_or]; done) | (simp only [Array.size_push, Array.size_setIfInBounds, List.length_cons, List.length_nil, List.mem_cons, List.not_mem_nil, or_false, false_or, not_or]; omega)) only [go_sem, ↓mwp_block, ↓e_alloc, ↓e_box, ↓e_bslice, storeT_eq, Nat.reduceEqDiff, Nat.reduceAdd, Nat.reduceMul, Nat.reduceSub, Nat.reduceLeDiff, Nat.reduceLT, reduceIte, Int.reduceLT, Int.reduceLE, Int.reduceAdd, Int.reduceSub, Int.reduceMul, Int.reduceEq, Int.reduceToNat, Int.reduceNeg, Int.reduceNe, rd1_blk hi.blk]
  refine call_intro (CloneMsg_ok (hi.own.arr enc_len).1 rfl hi.own.nilA (by omega)) ?_
  rintro v h' ⟨ho, hf, _⟩
  simp (disch := first | omega | assumption | ((repeat' (first | exact Fr.refl _ _ | assumption | (refine Fr.via (by assumption) ?_ (by intro i hi hm; first | exact hm | exact List.mem_cons_of_mem _ hm | exact absurd hm List.not_mem_nil | (simp only [List.mem_cons, List.mem_append, List.not_mem_nil, or_false] at hm ⊢; omega))) | refine Fr.push ?_ _ | (refine Fr.setM ?_ ?_ _; · first | exact List.mem_cons_self | (simp only [List.mem_cons, true_or, or_true]; done)) | (refine Fr.setN ?_ ?_ _; · first | omega | (simp only [Array.size_push, Array.size_setIfInBounds]; omega)))); done) | (simp only [Array.size_push, Array.size_setIfInBounds, List.length_cons, List.length_nil, List.mem_cons, List.not_mem_nil, or_false, false_or, not_false_eq_true, not_or]; done) | (simp only [Array.size_push, Array.size_setIfInBounds, List.length_cons, List.length_nil, List.mem_cons, List.not_mem_nil, or_false, false_or, not_or]; omega)) only [go_sem, ↓mwp_block, ↓e_alloc, ↓e_box, ↓e_bslice, storeT_eq, Nat.reduceEqDiff, Nat.reduceAdd, Nat.reduceMul, Nat.reduceSub, Nat.reduceLeDiff, Nat.reduceLT, reduceIte, Int.reduceLT, Int.reduceLE, Int.reduceAdd, Int.reduceSub, Int.reduceMul, Int.reduceEq, Int.reduceToNat, Int.reduceNeg, Int.reduceNe]
  exact hK _ _ ⟨ho, hf⟩

theorem IsOb.fr {base : Nat} {h h' : Heap} {o : Nat} {s : Value} {next : Int} {l : List Msg} {M : List Nat} (hi : IsOb base h o s next l) (hf : Fr h h' M) (hm : ∀ b, b = o ∨ b ∈ blkOf s → b ∉ M) : IsOb base h' o s next l :=
  ⟨by rw [hf.blk hi.lt (hm _ (.inl rfl))]; exact hi.blk, hi.ge, hi.own.fr hf fun b hb => hm b (.inr hb), hi.apart⟩

/-- How many of a return's messages aren't labels. -/
def waitsOf (rma : Int) (l : List Msg) : Nat := (l.filter fun m => decide (m.rma = rma ∧ m.kind ≠ 1)).length

end Go.Proofs.YtblalmgahfbalaaGreat.MX

/- The outbox: Heard and Drop. -/
namespace Go.Proofs.YtblalmgahfbalaaGreat.MX
open Go Go.Proofs
set_option linter.unusedSimpArgs false

end Go.Proofs.YtblalmgahfbalaaGreat.MX
