/- Texts in one file: Fr4, Fr5, Fr6, Dk1. -/
import Derived.Test.YtnjjdpeglkiifaaK13
import Derived.Test.YtnjjdpeglkiifaaK14
import Derived.Test.YtnjjdpeglkiifaaK11

/- All frames of some bytes, one by one. -/
namespace Go.Proofs.Ytnjjdpeglkiifaa.MX
open Go Go.Proofs
set_option linter.unusedSimpArgs false
set_option linter.unusedVariables false

noncomputable def frs : Nat → List UInt8 → List (List UInt8)
  | 0, _ => []
  | n + 1, b => match firstOf b with
    | none => []
    | some x => x :: frs n (b.drop (7 + x.length))
/-- The frames with which bytes begin. -/
noncomputable def framesOf (b : List UInt8) : List (List UInt8) := frs b.length b
/-- The place behind so many frames. -/
def endOf : List (List UInt8) → Nat
  | [] => 0
  | x :: l => 7 + x.length + endOf l
theorem endOf_app (a b : List (List UInt8)) : endOf (a ++ b) = endOf a + endOf b := by
  induction a with
  | nil => simp [endOf]
  | cons x a ih => simp only [List.cons_append, endOf, ih]; omega
theorem firstOf_some {b x : List UInt8} (h : firstOf b = some x) : frOk b ∧ x = frX b ∧ 1 ≤ x.length ∧ x.length ≤ 60000 ∧ 7 + x.length ≤ b.length := by
  by_cases ho : frOk b
  · rw [firstOf_yes ho] at h
    cases h
    have h1 := frX_len ho
    have h3 := ho.2.2.1
    have h4 := ho.2.2.2.1
    have h5 := ho.2.2.2.2.1
    exact ⟨ho, rfl, by omega, by omega, by omega⟩
  · rw [firstOf_no ho] at h; cases h
theorem frs_more : ∀ (n m : Nat) (b : List UInt8), b.length ≤ n → b.length ≤ m → frs n b = frs m b
  | 0, 0, _, _, _ => rfl
  | 0, m + 1, b, h1, _ => by
    have : b = [] := List.eq_nil_of_length_eq_zero (by omega)
    subst this
    simp only [frs]
    cases h : firstOf [] with
    | none => rfl
    | some x => have := (firstOf_some h).2.2.2.2; simp at this
  | n + 1, 0, b, _, h2 => by
    have : b = [] := List.eq_nil_of_length_eq_zero (by omega)
    subst this
    simp only [frs]
    cases h : firstOf [] with
    | none => rfl
    | some x => have := (firstOf_some h).2.2.2.2; simp at this
  | n + 1, m + 1, b, h1, h2 => by
    simp only [frs]
    cases h : firstOf b with
    | none => rfl
    | some x =>
      have := (firstOf_some h).2.2
      simp only [List.cons.injEq, true_and]
      exact frs_more n m _ (by simp; omega) (by simp; omega)
theorem framesOf_eq (b : List UInt8) : framesOf b = match firstOf b with
    | none => []
    | some x => x :: framesOf (b.drop (7 + x.length)) := by
  unfold framesOf
  rw [frs_more b.length (b.length + 1) b (Nat.le_refl _) (by omega)]
  simp only [frs]
  cases h : firstOf b with
  | none => rfl
  | some x =>
    simp only [List.cons.injEq, true_and]
    exact frs_more _ _ _ (by simp) (Nat.le_refl _)
/-- Behind some frames come the others. -/
theorem framesOf_drop : ∀ (i : Nat) (b : List UInt8), i ≤ (framesOf b).length → framesOf (b.drop (endOf ((framesOf b).take i))) = (framesOf b).drop i ∧ endOf ((framesOf b).take i) ≤ b.length
  | 0, b, _ => by simp [endOf]
  | i + 1, b, hi => by
    have he := framesOf_eq b
    cases h : firstOf b with
    | none => rw [h] at he; simp only at he; rw [he] at hi; simp at hi
    | some x =>
      rw [h] at he
      simp only at he
      rw [he] at hi ⊢
      obtain ⟨h1, h2⟩ := framesOf_drop i (b.drop (7 + x.length)) (by simpa using hi)
      have hx := (firstOf_some h).2.2.2.2
      simp only [List.take_succ_cons, endOf, List.drop_succ_cons]
      rw [← List.drop_drop]
      refine ⟨h1, ?_⟩
      simp at h2
      omega

theorem All_ok {h0 h : Heap} {l : List HP} {A : Option Addr} {n c : Nat} (S : St h0 h l) :
    CallsH Try.prog 103 [.slice A n c] h fun r h' => ∃ p, r = .func (.func 120) #[] #[.pointer (some ⟨p, 0, none⟩)] ∧ St h0 h' (cellA p [.slice A n c] 23 :: l) := by
  (refine enterK c_frame_All (Nat.le_of_ble_eq_true rfl) fun K hK => ?_; (try simp (maxSteps := 1000000) (disch := first | omega | assumption | exact Nat.le_of_ble_eq_true rfl) only [go_sem, ↓mwp_block, simprocAttr, ir_frame_All]))
  (refine st_alloc S ?_; clear S; intro p h S; (try simp only [splice_cons, splice_nil, List.set_cons_zero, List.set_cons_succ, Nat.zero_add, Nat.reduceAdd, List.cons_append, List.nil_append] at S); ((try clear F); have F := S.all; (try simp only [all_cons, all_nil, says_cell, and_true] at F)))
  (try simp (maxSteps := 1000000) (disch := first | omega | assumption | exact Nat.le_of_ble_eq_true rfl) only [go_sem, ↓mwp_block, simprocAttr])
  exact hK _ _ ⟨p, rfl, S⟩

theorem cut_drop {A : Option Addr} {c at' : Nat} {b : List UInt8} {h : Heap} (ha : Arr bEnc 1 h A b) (h1 : at' ≤ b.length) (hc : b.length ≤ c) (hc2 : c < 9223372036854775808) :
    ∃ A' c', cutV A 1 at' b.length c c = some (.slice A' (b.drop at').length c') ∧ (b.drop at').length ≤ c' ∧ c' < 9223372036854775808 ∧ ∀ h, Arr bEnc 1 h A b → Arr bEnc 1 h A' (b.drop at') := by
  have hl : ((b.length : Int) - at').toNat = (b.drop at').length := by simp
  unfold cutV
  rw [if_pos ⟨by omega, by omega, by omega, by omega⟩, hl]
  by_cases e : (c : Int) = at'
  · rw [if_pos e]
    refine ⟨A, _, rfl, by simp; omega, by omega, fun h ha => ?_⟩
    have : b.drop at' = [] := by simp; omega
    rw [this]
    intro i hi
    simp at hi
  · rw [if_neg e]
    refine ⟨_, _, rfl, by simp; omega, by omega, fun h ha => ?_⟩
    cases A with
    | none =>
      intro i hi
      simp at hi
      obtain ⟨_, _, h1, _⟩ := ha.at (show 0 < b.length by omega)
      cases h1
    | some a =>
      by_cases hb : b = []
      · subst hb
        intro i hi
        simp at hi
      · obtain ⟨bk, off, h1, _⟩ := ha.at (show 0 < b.length by cases b with | nil => exact absurd rfl hb | cons => simp)
        cases h1
        have := arr_drop ha at'
        rw [Option.map_some, Int.toNat_natCast, Nat.mul_one, add_none]
        exact this

set_option maxHeartbeats 1000000 in
theorem All1_ok (yl : Nat) {p : Nat} {A : Option Addr} {c : Nat} {b : List UInt8} (hc : b.length ≤ c) (hc2 : c < 9223372036854775808) (hl : b.length < 10000000) (Inv : Nat → Heap → Prop) (Stop : Heap → Prop)
    (hcell : ∀ i h, Inv i h → rd1 h (.pointer (some ⟨p, 0, none⟩)) = some (.slice A b.length c)) (harr : ∀ i h, Inv i h → Arr bEnc 1 h A b) (hfr : ∀ i h h', Inv i h → Fr h h' [] → Inv i h')
    (hy : ∀ (i : Nat) (x : List UInt8) (h h' : Heap) (v : Value), (framesOf b)[i]? = some x → Inv i h → Fr h h' [] → Own bEnc 1 5 h.size h' v x →
      YieldH Try.prog yl [.int .i64 (endOf ((framesOf b).take (i + 1)) : Nat), v] h' fun r h'' => (r = .bool true ∧ Inv (i + 1) h'') ∨ (r = .bool false ∧ Stop h''))
    {h : Heap} (hi : Inv 0 h) :
    CallsH Try.prog 120 [.func (.yield yl) #[] #[], .pointer (some ⟨p, 0, none⟩)] h fun _ h' => Inv (framesOf b).length h' ∨ Stop h' := by
  refine enterY c_frame_All_1 (by kernel_rfl) (Nat.le_of_ble_eq_true rfl) fun K hK => ?_
  (try simp (maxSteps := 1000000) (disch := first | omega | assumption | exact Nat.le_of_ble_eq_true rfl) only [go_sem, ↓mwp_block, simprocAttr, ir_frame_All_1])
  refine loopY_intro (fun D ρ h => D = [] ∧ ρ 0 = .func (.yield yl) #[] #[] ∧ ρ 1 = .pointer (some ⟨p, 0, none⟩) ∧ ∃ i : Nat, i ≤ (framesOf b).length ∧ ρ 3 = .int .i64 (endOf ((framesOf b).take i) : Nat) ∧ Inv i h) (fun ρ _ => b.length - (iv (ρ 3)).toNat) ?_ ?_
  · (try simp (maxSteps := 1000000) (disch := first | omega | assumption | exact Nat.le_of_ble_eq_true rfl) only [go_sem, ↓mwp_block, simprocAttr])
    exact ⟨0, Nat.zero_le _, rfl, hi⟩
  · clear hi
    rintro D ρ h J hJ ⟨rfl, e0, e1, i, hi, e3, hI⟩
    obtain ⟨hd1, hd2⟩ := framesOf_drop i b hi
    obtain ⟨A', c', hcut, hcl, hcl2, hA'⟩ := cut_drop (harr i h hI) hd2 hc hc2
    (try simp (maxSteps := 1000000) (disch := first | omega | assumption | exact Nat.le_of_ble_eq_true rfl) only [go_sem, ↓mwp_block, simprocAttr, e0, e1, e3, hcell i h hI, hcut])
    refine call_intro (first_ok (St.nil h) (fun h' S => hA' h' ((harr i h hI).fr S.fr (by simp))) hcl hcl2 (by simp; omega)) ?_
    rintro _ h1 ⟨⟨A2, c2, rfl, hx⟩, S⟩
    have hfe := framesOf_eq (b.drop (endOf ((framesOf b).take i)))
    rw [hd1] at hfe
    cases hf : firstOf (b.drop (endOf ((framesOf b).take i))) with
    | none =>
      rw [hf] at hfe
      simp only [List.drop_eq_nil_iff] at hfe
      obtain rfl : i = (framesOf b).length := by omega
      (try simp (maxSteps := 1000000) (disch := first | omega | assumption | exact Nat.le_of_ble_eq_true rfl) only [go_sem, ↓mwp_block, simprocAttr, toldF, e3, e0])
      exact hK _ _ (.inl (hfr _ _ _ hI S.fr))
    | some x =>
      rw [hf] at hfe
      simp only at hfe
      have hil : i < (framesOf b).length := by
        rcases Nat.lt_or_ge i (framesOf b).length with h1 | h1
        · exact h1
        · rw [List.drop_eq_nil_of_le h1] at hfe; cases hfe
      have hxi : (framesOf b)[i] = x := by
        rw [List.drop_eq_getElem_cons hil] at hfe
        exact (List.cons.inj hfe).1
      have htk : endOf ((framesOf b).take (i + 1)) = endOf ((framesOf b).take i) + (7 + x.length) := by
        rw [List.take_succ_eq_append_getElem hil, endOf_app, hxi]
        simp [endOf]
      have hle := (framesOf_drop (i + 1) b hil).2
      obtain ⟨hx1, hx2, hx3⟩ := hx x hf
      obtain ⟨_, _, hxl1, hxl2, _⟩ := firstOf_some hf
      have hgi : (framesOf b)[i]? = some x := by rw [List.getElem?_eq_getElem hil, hxi]
      (try simp (maxSteps := 1000000) (disch := first | omega | assumption | exact Nat.le_of_ble_eq_true rfl) only [go_sem, ↓mwp_block, simprocAttr, toldF, e3, e0])
      refine call_intro (CloneB_ok S (hx3 _ S) rfl ?_ (by omega)) ?_
      · rintro rfl
        obtain ⟨_, _, h, _⟩ := (hx3 _ S).at (show 0 < x.length by omega)
        cases h
      rintro v h2 ⟨S2, _⟩
      (try simp (maxSteps := 1000000) (disch := first | omega | assumption | exact Nat.le_of_ble_eq_true rfl) only [go_sem, ↓mwp_block, simprocAttr])
      have hyi := hy i x h h2 v hgi hI S2.fr (S2.own.rebase S2.ownLt)
      rw [htk] at hyi
      rw [show ((endOf ((framesOf b).take i) : Int) + ((7 + x.length : Nat) : Int)) = ((endOf ((framesOf b).take i) + (7 + x.length) : Nat) : Int) by omega]
      refine yield_intro hyi ?_
      rintro _ h3 (⟨rfl, hI3⟩ | ⟨rfl, hS3⟩)
      · (try simp (maxSteps := 1000000) (disch := first | omega | assumption | exact Nat.le_of_ble_eq_true rfl) only [go_sem, ↓mwp_block, simprocAttr])
        refine hJ _ _ _ ?_ ?_
        · (try simp (maxSteps := 1000000) (disch := first | omega | assumption | exact Nat.le_of_ble_eq_true rfl) only [go_sem, ↓mwp_block, simprocAttr, e0, e1])
          exact ⟨i + 1, hil, by rw [htk], hI3⟩
        · (try simp (maxSteps := 1000000) (disch := first | omega | assumption | exact Nat.le_of_ble_eq_true rfl) only [go_sem, ↓mwp_block, simprocAttr, e3])
          omega
      · (try simp (maxSteps := 1000000) (disch := first | omega | assumption | exact Nat.le_of_ble_eq_true rfl) only [go_sem, ↓mwp_block, simprocAttr])
        exact hK _ _ (.inr hS3)
end Go.Proofs.Ytnjjdpeglkiifaa.MX

/- Ranges over the frames of some bytes; the place behind the last one. -/
namespace Go.Proofs.Ytnjjdpeglkiifaa.MX
open Go Go.Proofs
set_option linter.unusedSimpArgs false
set_option linter.unusedVariables false
set_option maxRecDepth 100000

abbrev defO : Obj := .deferred (some [])
theorem rangeAll {N : Nat} {g : Operand} {ps : Array Tmp} {am bd : Code} {Q : QY} {D : List Nat} {ρ : Env} {h : Heap} {t1 : Tag am} {t2 : Tag bd} {t3 : Tag Q} {t4 : Tag ρ} {t5 : Tag h} {g' : Opd} {p : Nat} {A : Option Addr} {c : Nat} {b : List UInt8} {h0 : Heap} {L0 : List HP}
    (I : Nat → List HP → Prop) (X : Nat → List HP → Prop) (hg : opd N g = some g') (hev : ev ρ g' = .func (.func 120) #[] #[.pointer (some ⟨p, 0, none⟩)])
    (S : St h0 h (cellA p [.slice A b.length c] 23 :: L0)) (hI0 : I 0 L0) (hc : b.length ≤ c) (hc2 : c < 9223372036854775808) (hl : b.length < 10000000)
    (harr : ∀ i L h, I i L → St h0 h L → Arr bEnc 1 h A b) (hps : ps.size = 2) (hlt : ∀ p ∈ ps.toList, p < N) (hoa : okR Try.prog N false am = true) (hob : okR Try.prog N false bd = true)
    (hbody : ∀ (rec : LoopState → Option Code → Loop) (yl Dd i : Nat) (x : List UInt8) (v : Value) (L : List HP) (h : Heap), (framesOf b)[i]? = some x → I i L →
      St h0 h (ownA bEnc 1 5 v x :: objA yl (.loop (rec .ready none)) :: objA Dd defO :: cellA p [.slice A b.length c] 23 :: L) →
      roundY Try.prog N yl rec (compC Try.prog N am) (compC Try.prog N bd) (setTmps ps.toList [.int .i64 (endOf ((framesOf b).take (i + 1)) : Nat), v] ρ) h fun r h' =>
        (r = .bool true ∧ ∃ L', I (i + 1) L' ∧ St h0 h' (objA yl (.loop (rec .ready none)) :: objA Dd defO :: cellA p [.slice A b.length c] 23 :: L')) ∨
        (r = .bool false ∧ ∃ id L', X id L' ∧ St h0 h' (objA yl (.loop (rec .done (some (.exit id)))) :: objA Dd defO :: cellA p [.slice A b.length c] 23 :: L')))
    (hdone : ∀ Dd h' L', I (framesOf b).length L' → St h0 h' (objA Dd defO :: L') → Q .normal (Dd :: D) ρ h')
    (hstop : ∀ Dd h' id L', X id L' → St h0 h' (objA Dd defO :: L') → Q (.exit id) (Dd :: D) ρ h') : rangeYT Try.prog N g ps am bd Q D ρ h t1 t2 t3 t4 t5 := by
  refine ⟨g', _, _, hg, hev, by kernel_rfl, fun rec hrec => ?_⟩
  have S1 := (S.objNew (o := defO)).objNew (o := .loop (rec .ready none))
  rw [Array.size_push] at S1
  refine (All1_ok (h.size + 1) (p := p) (A := A) (c := c) (b := b) hc hc2 hl
    (fun i h' => ∃ L, I i L ∧ St h0 h' (objA (h.size + 1) (.loop (rec .ready none)) :: objA h.size defO :: cellA p [.slice A b.length c] 23 :: L))
    (fun h' => ∃ id L, X id L ∧ St h0 h' (objA (h.size + 1) (.loop (rec .done (some (.exit id)))) :: objA h.size defO :: cellA p [.slice A b.length c] 23 :: L))
    ?_ ?_ ?_ ?_ ⟨_, hI0, S1⟩).mono ?_
  · rintro i h' ⟨L, _, S⟩
    exact st_rd1 S.p2
  · rintro i h' ⟨L, hI, S⟩
    exact harr i L h' hI S.tl.tl.tl
  · rintro i h1 h2 ⟨L, hI, S⟩ hf
    exact ⟨L, hI, S.frame hf⟩
  · rintro i x h1 h2 v hx ⟨L, hI, S⟩ hf ho
    have S2 : St h0 h2 (ownA bEnc 1 5 v x :: _) := S.ownNew hf ho
    exact yield_ok hrec S2.tl.obj (by simp [hps]) hlt hoa hob (hbody rec _ _ i x v L h2 hx hI S2)
  · rintro v h' (⟨L, hI, S⟩ | ⟨id, L, hX, S⟩)
    · exact ⟨.ready, none, by simp, S.obj, hdone _ _ L hI (S.objSet.tl.d1)⟩
    · exact ⟨.done, some (.exit id), by simp, S.obj, hstop _ _ id L hX (S.objSet.tl.d1)⟩

theorem setTmps_2 {a b : Nat} {u v : Value} {ρ : Env} : setTmps [a, b] [u, v] ρ = upd (upd ρ a u) b v := rfl

theorem end1 {P : Program} {rs : List MRes} {R : Value → Heap → Prop} {ρ : Env} {h0 h : Heap} {L : List HP} {Dd : Nat} (S : St h0 h (objA Dd defO :: L)) (hk : ∀ h', St h0 h' L → bindT (resVs ρ h' rs) (fun vs => R (oneOf vs) h') ⟨⟩) : endY rs R [Dd] ρ h :=
  ⟨⟨S.obj, trivial⟩, hk _ S.objSet.tl⟩
theorem of_round {P : Program} {N l : Nat} {rec : LoopState → Option Code → Loop} {ca cb : MCode} {ρ : Env} {h : Heap} {K : Value → Heap → Prop} (hr : mwpY P N ca (qA P N l rec cb K) [] ρ h) : roundY P N l rec ca cb ρ h K := hr
theorem Whole_ok {h0 h : Heap} {l : List HP} {A : Option Addr} {c : Nat} {b : List UInt8} (S : St h0 h l) (ha : ∀ h', St h0 h' l → Arr bEnc 1 h' A b) (hc : b.length ≤ c) (hc2 : c < 9223372036854775808) (hl : b.length < 10000000) :
    CallsH Try.prog 84 [.slice A b.length c] h fun r h' => r = .int .i64 (endOf (framesOf b) : Nat) ∧ St h0 h' l := by
  refine enterY c_frame_Whole (by kernel_rfl) (Nat.le_of_ble_eq_true rfl) fun K hK => ?_
  (try simp (maxSteps := 1000000) (disch := first | omega | assumption | exact Nat.le_of_ble_eq_true rfl) only [go_sem, ↓mwp_block, simprocAttr, ir_frame_Whole])
  (refine st_alloc S ?_; clear S; intro n h S; (try simp only [splice_cons, splice_nil, List.set_cons_zero, List.set_cons_succ, Nat.zero_add, Nat.reduceAdd, List.cons_append, List.nil_append] at S); ((try clear F); have F := S.all; (try simp only [all_cons, all_nil, says_cell, and_true] at F)))
  (try simp (maxSteps := 1000000) (disch := first | omega | assumption | exact Nat.le_of_ble_eq_true rfl) only [go_sem, ↓mwp_block, simprocAttr])
  (refine st_store (by first | exact S | exact S.p1 | exact S.p2 | exact S.p3 | exact S.p4 | exact S.p5 | exact S.p6 | exact S.p7 | exact S.p8 | exact S.p9 | exact S.p10 | exact S.p11) (by rfl) (by rfl) (Nat.le_of_ble_eq_true rfl) ?_; clear S; intro h S; (try simp only [splice_cons, splice_nil, List.set_cons_zero, List.set_cons_succ, Nat.zero_add, Nat.reduceAdd, List.cons_append, List.nil_append] at S); ((try clear F); have F := S.all; (try simp only [all_cons, all_nil, says_cell, and_true] at F)))
  (try simp (maxSteps := 1000000) (disch := first | omega | assumption | exact Nat.le_of_ble_eq_true rfl) only [go_sem, ↓mwp_block, simprocAttr])
  refine call_intro (All_ok S) ?_
  rintro _ h ⟨p, rfl, S⟩
  (try simp (maxSteps := 1000000) (disch := first | omega | assumption | exact Nat.le_of_ble_eq_true rfl) only [go_sem, ↓mwp_block, simprocAttr])
  refine rangeAll (b := b) (fun i L => L = cellA n [.int .i64 (endOf ((framesOf b).take i) : Nat)] 3 :: l) (fun _ _ => False) (g' := .t 6) rfl (by (try simp (maxSteps := 1000000) (disch := first | omega | assumption | exact Nat.le_of_ble_eq_true rfl) only [go_sem, ↓mwp_block, simprocAttr])) S (by simp [endOf]) hc hc2 hl ?_ rfl (by decide) (by kernel_rfl) (by kernel_rfl) ?_ ?_ ?_
  · rintro i L h' rfl S
    exact ha h' S.tl
  · rintro rec yl Dd i x v L h hx rfl S
    have hil : i < (framesOf b).length := (List.getElem?_eq_some_iff.1 hx).1
    refine of_round ?_
    conv => arg 3; reduce
    (try simp (maxSteps := 1000000) (disch := first | omega | assumption | exact Nat.le_of_ble_eq_true rfl) only [go_sem, ↓mwp_block, simprocAttr, setTmps_2])
    refine qA_intro S.p1.obj ?_
    conv => arg 3; reduce
    have S := S.p1.objSet (o' := .loop (rec .busy none))
    (try simp (maxSteps := 1000000) (disch := first | omega | assumption | exact Nat.le_of_ble_eq_true rfl) only [go_sem, ↓mwp_block, simprocAttr, setTmps_2])
    refine st_store S.p4 (by rfl) (by rfl) (Nat.le_of_ble_eq_true rfl) ?_
    clear S
    intro h S
    (try simp only [splice_cons, splice_nil, List.set_cons_zero, List.set_cons_succ, Nat.zero_add, Nat.reduceAdd, List.cons_append, List.nil_append] at S)
    (try simp (maxSteps := 1000000) (disch := first | omega | assumption | exact Nat.le_of_ble_eq_true rfl) only [go_sem, ↓mwp_block, simprocAttr])
    refine ⟨S.p1.obj, .inl ⟨_, rfl, ?_⟩⟩
    exact S.p1.objSet.p2.tl.p3.p3.p2
  · rintro Dd h' L' rfl S
    ((try clear F); have F := S.all; (try simp only [all_cons, all_nil, says_cell, and_true] at F))
    (try simp (maxSteps := 1000000) (disch := first | omega | assumption | exact Nat.le_of_ble_eq_true rfl) only [go_sem, ↓mwp_block, simprocAttr, F])
    refine end1 (P := Try.prog) S ?_
    intro h S
    (try simp (maxSteps := 1000000) (disch := first | omega | assumption | exact Nat.le_of_ble_eq_true rfl) only [go_sem, ↓mwp_block, simprocAttr])
    refine hK _ _ ⟨?_, S.tl⟩
    rw [List.take_length]
  · rintro Dd h' id L' hX
    exact hX.elim
end Go.Proofs.Ytnjjdpeglkiifaa.MX

/- The frames that are told (law03.told). -/
namespace Go.Proofs.Ytnjjdpeglkiifaa.MX
open Go Go.Proofs
set_option linter.unusedSimpArgs false
set_option linter.unusedVariables false
set_option maxRecDepth 100000

/-- A slice of byte slices, all of the call's own. -/
structure Bz where
  A : Option Addr
  c : Nat
  ys : List UInt8
def Bz.enc (z : Bz) : List Value := [.slice z.A z.ys.length z.c]
theorem bz_len (z : Bz) : z.enc.length = 1 := rfl
theorem bz_plain (z : Bz) : plainCells z.enc = true := rfl
def bRow (z : Bz) : HP := ownA bEnc 1 5 (.slice z.A z.ys.length z.c) z.ys
def lsA (s : Value) (xs : List (List UInt8)) : HP := exA fun zs : List Bz => starsA (ownA Bz.enc 1 23 s zs :: pureA (zs.map Bz.ys = xs) :: zs.map bRow)
theorem lsA_open {h0 h : Heap} {l : List HP} {s : Value} {xs : List (List UInt8)} : St h0 h (lsA s xs :: l) ↔ ∃ zs : List Bz, zs.map Bz.ys = xs ∧ St h0 h (ownA Bz.enc 1 23 s zs :: (zs.map bRow ++ l)) := by
  refine St.ex.trans ⟨?_, ?_⟩
  · rintro ⟨zs, S⟩
    have S := St.stars.1 S
    simp only [List.cons_append] at S
    obtain ⟨hp, S⟩ := St.pure.1 S.p1
    exact ⟨zs, hp, S⟩
  · rintro ⟨zs, h1, S⟩
    refine ⟨zs, St.stars.2 ?_⟩
    simp only [List.cons_append]
    exact (St.pure.2 ⟨h1, S⟩).p1
def iEnc (n : Nat) : List Value := [.int .i64 n]
theorem iEnc_len (n : Nat) : (iEnc n).length = 1 := rfl
theorem iEnc_plain (n : Nat) : plainCells (iEnc n) = true := rfl
/-- The places behind the frames. -/
def placesOf (xs : List (List UInt8)) : List Nat := (List.range xs.length).map fun i => endOf (xs.take (i + 1))
theorem placesOf_len (xs : List (List UInt8)) : (placesOf xs).length = xs.length := by simp [placesOf]
theorem placesOf_succ (xs : List (List UInt8)) {i : Nat} (hi : i < xs.length) : placesOf (xs.take (i + 1)) = placesOf (xs.take i) ++ [endOf (xs.take (i + 1))] := by
  have h1 : (xs.take (i + 1)).length = i + 1 := by simp; omega
  have h2 : (xs.take i).length = i := by simp; omega
  simp only [placesOf, h1, h2, List.range_succ, List.map_append, List.map_cons, List.map_nil]
  congr 1
  · apply List.map_congr_left
    intro j hj
    rw [List.mem_range] at hj
    rw [List.take_take, List.take_take, Nat.min_eq_left (by omega), Nat.min_eq_left (by omega)]
  · rw [List.take_take, Nat.min_self]
def tkN {α : Type} (m : Int) (l : List α) : List α := if m < 0 then l else l.take m.toNat
theorem frames_lt (b : List UInt8) : (framesOf b).length ≤ b.length := by
  have h := (framesOf_drop (framesOf b).length b (Nat.le_refl _)).2
  rw [List.take_length] at h
  have : ∀ l : List (List UInt8), l.length ≤ endOf l := by
    intro l
    induction l with
    | nil => exact Nat.le_refl _
    | cons x l ih => simp only [List.length_cons, endOf]; omega
  have := this (framesOf b)
  omega

end Go.Proofs.Ytnjjdpeglkiifaa.MX

/- The disk: what it has, and the methods that look. -/
namespace Go.Proofs.Ytnjjdpeglkiifaa.MX
open Go Go.Proofs
set_option linter.unusedSimpArgs false
set_option linter.unusedVariables false

/-- A file: its bytes, how many are safe. -/
structure DF where
  bs : List UInt8
  safe : Nat
structure Dk where
  cap : Int
  fs : List (Option DF)
  fuse : Int
  lost : Bool
def szF : Option DF → Nat
  | none => 0
  | some f => f.bs.length
def used (fs : List (Option DF)) : Nat := (fs.map szF).sum
structure Dk.ok (D : Dk) : Prop where
  len : D.fs.length = 8
  cap : 0 ≤ D.cap ∧ D.cap ≤ 1048576
  room : (used D.fs : Int) ≤ D.cap
  fuse : -1 ≤ D.fuse ∧ D.fuse < 9223372036854775808
  safe : ∀ f, some f ∈ D.fs → f.safe ≤ f.bs.length

def fileA (p : Nat) (f : DF) : HP := exA fun s => starsA [cellA p [s, .int .i64 f.safe] 121, ownA bEnc 1 5 s f.bs]
theorem fileA_open {h0 h : Heap} {l : List HP} {p : Nat} {f : DF} : St h0 h (fileA p f :: l) ↔ ∃ s, St h0 h (cellA p [s, .int .i64 f.safe] 121 :: ownA bEnc 1 5 s f.bs :: l) :=
  St.ex.trans (exists_congr fun _ => St.stars)
abbrev Slot := Option (Nat × DF)
def slotA : Slot → HP
  | none => empA
  | some (p, f) => fileA p f
def ptrOf : Slot → Value
  | none => .pointer none
  | some (p, _) => .pointer (some ⟨p, 0, none⟩)
def dfOf (z : Slot) : Option DF := z.map Prod.snd
def dcells (cap : Int) (zs : List Slot) (fuse : Int) (lost : Bool) : List Value := .int .i64 cap :: (zs.map ptrOf ++ [.int .i64 fuse, .bool lost])
def diskA (d : Nat) (D : Dk) : HP := exA fun zs : List Slot => starsA (cellA d (dcells D.cap zs D.fuse D.lost) 113 :: pureA (zs.map dfOf = D.fs ∧ zs.length = 8) :: zs.map slotA)
theorem diskA_open {h0 h : Heap} {l : List HP} {d : Nat} {D : Dk} : St h0 h (diskA d D :: l) ↔ ∃ zs : List Slot, zs.map dfOf = D.fs ∧ zs.length = 8 ∧ St h0 h (cellA d (dcells D.cap zs D.fuse D.lost) 113 :: (zs.map slotA ++ l)) := by
  refine St.ex.trans ⟨?_, ?_⟩
  · rintro ⟨zs, S⟩
    have S := St.stars.1 S
    simp only [List.cons_append] at S
    obtain ⟨hp, S⟩ := St.pure.1 S.p1
    exact ⟨zs, hp.1, hp.2, S⟩
  · rintro ⟨zs, h1, h2, S⟩
    refine ⟨zs, St.stars.2 ?_⟩
    simp only [List.cons_append]
    exact (St.pure.2 ⟨⟨h1, h2⟩, S⟩).p1
/-- The slot at a place, and the others; and back. -/
theorem slot_pick {h0 h : Heap} {l : List HP} {X : HP} {zs : List Slot} {n : Nat} (hn : n < zs.length) (S : St h0 h (X :: (zs.map slotA ++ l))) : St h0 h (slotA zs[n] :: X :: ((zs.take n ++ zs.drop (n + 1)).map slotA ++ l)) := by
  refine S.perm ?_
  have e : zs = zs.take n ++ zs[n] :: zs.drop (n + 1) := by rw [← List.drop_eq_getElem_cons hn, List.take_append_drop]
  conv => lhs; rw [e]
  rw [List.map_append, List.map_append, List.map_cons, List.append_assoc, List.append_assoc, List.cons_append]
  exact (List.Perm.cons X List.perm_middle).trans (List.Perm.swap _ _ _)
theorem slot_put {h0 h : Heap} {l : List HP} {X : HP} {zs : List Slot} {n : Nat} {z : Slot} (hn : n < zs.length) (S : St h0 h (slotA z :: X :: ((zs.take n ++ zs.drop (n + 1)).map slotA ++ l))) : St h0 h (X :: ((zs.set n z).map slotA ++ l)) := by
  refine S.perm ?_
  rw [List.set_eq_take_append_cons_drop, if_pos hn, List.map_append, List.map_append, List.map_cons, List.append_assoc, List.append_assoc, List.cons_append]
  exact (List.Perm.swap _ _ _).trans (List.Perm.cons X List.perm_middle.symm)
theorem dcells_at {cap fuse : Int} {lost : Bool} {zs : List Slot} {n : Nat} (hn : n < zs.length) : (dcells cap zs fuse lost)[1 + n]? = some (ptrOf zs[n]) := by
  rw [dcells, Nat.add_comm, List.getElem?_cons_succ, List.getElem?_append_left (by simpa using hn), List.getElem?_map, List.getElem?_eq_getElem hn]
  rfl
theorem dcells_fuse {cap fuse : Int} {lost : Bool} {zs : List Slot} (h8 : zs.length = 8) : (dcells cap zs fuse lost)[9]? = some (.int .i64 fuse) := by
  rw [dcells, List.getElem?_cons_succ, List.getElem?_append_right (by simp [h8])]
  simp [h8]
theorem dcells_lost {cap fuse : Int} {lost : Bool} {zs : List Slot} (h8 : zs.length = 8) : (dcells cap zs fuse lost)[10]? = some (.bool lost) := by
  rw [dcells, List.getElem?_cons_succ, List.getElem?_append_right (by simp [h8])]
  simp [h8]
theorem dcells_cap {cap fuse : Int} {lost : Bool} {zs : List Slot} : (dcells cap zs fuse lost)[0]? = some (.int .i64 cap) := rfl
theorem dcells_len {cap fuse : Int} {lost : Bool} {zs : List Slot} (h8 : zs.length = 8) : (dcells cap zs fuse lost).length = 11 := by simp [dcells, h8]
theorem dcells_setL {cap fuse : Int} {lost v : Bool} {zs : List Slot} (h8 : zs.length = 8) : splice (dcells cap zs fuse lost) 10 [.bool v] = dcells cap zs fuse v := by
  rw [splice, splice, dcells, dcells, List.set_cons_succ, List.set_append_right _ _ (by simp [h8])]
  simp [h8]
theorem dcells_setF {cap fuse v : Int} {lost : Bool} {zs : List Slot} (h8 : zs.length = 8) : splice (dcells cap zs fuse lost) 9 [.int .i64 v] = dcells cap zs v lost := by
  rw [splice, splice, dcells, dcells, List.set_cons_succ, List.set_append_right _ _ (by simp [h8])]
  simp [h8]
theorem dcells_setP {cap fuse : Int} {lost : Bool} {zs : List Slot} {n : Nat} (hn : n < zs.length) (z : Slot) : splice (dcells cap zs fuse lost) (1 + n) [ptrOf z] = dcells cap (zs.set n z) fuse lost := by
  rw [splice, splice, dcells, dcells, Nat.add_comm, List.set_cons_succ, List.set_append_left _ _ (by simpa using hn), List.map_set]

theorem is_ok (n : Int) (h : Heap) : CallsH Try.prog 82 [.int .i64 n] h fun v h' => v = .bool (dcd (0 ≤ n ∧ n < 8)) ∧ h' = h := by
  by_cases h0 : 0 ≤ n
  · by_cases h1 : n < 8
    · (refine enterK c_disk_is (Nat.le_of_ble_eq_true rfl) fun K hK => ?_; (try simp (maxSteps := 1000000) (disch := first | omega | assumption | exact Nat.le_of_ble_eq_true rfl) only [go_sem, ↓mwp_block, simprocAttr, ir_disk_is]))
      exact hK _ _ ⟨by rw [dcd_true ⟨h0, h1⟩], rfl⟩
    · (refine enterK c_disk_is (Nat.le_of_ble_eq_true rfl) fun K hK => ?_; (try simp (maxSteps := 1000000) (disch := first | omega | assumption | exact Nat.le_of_ble_eq_true rfl) only [go_sem, ↓mwp_block, simprocAttr, ir_disk_is]))
      exact hK _ _ ⟨by rw [dcd_false (fun h => h1 h.2)], rfl⟩
  · (refine enterK c_disk_is (Nat.le_of_ble_eq_true rfl) fun K hK => ?_; (try simp (maxSteps := 1000000) (disch := first | omega | assumption | exact Nat.le_of_ble_eq_true rfl) only [go_sem, ↓mwp_block, simprocAttr, ir_disk_is]))
    exact hK _ _ ⟨by rw [dcd_false (fun h => h0 h.1)], rfl⟩

/-- What is wrong with a call for a file. -/
def askE (D : Dk) (n : Int) : Int := if D.lost then 6 else if 0 ≤ n ∧ n < 8 then 0 else 1
theorem ask_nil (n : Int) (h : Heap) : CallsH Try.prog 86 [.pointer none, .int .i64 n] h fun v h' => v = .int .i64 1 ∧ h' = h := by
  (refine enterK c_disk_Disk_ask (Nat.le_of_ble_eq_true rfl) fun K hK => ?_; (try simp (maxSteps := 1000000) (disch := first | omega | assumption | exact Nat.le_of_ble_eq_true rfl) only [go_sem, ↓mwp_block, simprocAttr, ir_disk_Disk_ask]))
  exact hK _ _ ⟨rfl, rfl⟩
theorem ask_ok (n : Int) {h0 h : Heap} {l : List HP} {d : Nat} {D : Dk} (S : St h0 h (diskA d D :: l)) :
    CallsH Try.prog 86 [.pointer (some ⟨d, 0, none⟩), .int .i64 n] h fun v h' => v = .int .i64 (askE D n) ∧ h' = h := by
  obtain ⟨zs, hz, h8, S⟩ := diskA_open.1 S
  (refine enterK c_disk_Disk_ask (Nat.le_of_ble_eq_true rfl) fun K hK => ?_; (try simp (maxSteps := 1000000) (disch := first | omega | assumption | exact Nat.le_of_ble_eq_true rfl) only [go_sem, ↓mwp_block, simprocAttr, ir_disk_Disk_ask]))
  ((try clear F); have F := S.all; (try simp only [all_cons, all_nil, says_cell, and_true] at F))
  have hlo := dcells_lost (cap := D.cap) (fuse := D.fuse) (lost := D.lost) h8
  cases hd : D.lost
  · rw [hd] at F hlo
    (try simp (maxSteps := 1000000) (disch := first | omega | assumption | exact Nat.le_of_ble_eq_true rfl) only [go_sem, ↓mwp_block, simprocAttr, F, hlo])
    refine call_intro (is_ok n _) ?_
    rintro _ _ ⟨rfl, rfl⟩
    by_cases hn : 0 ≤ n ∧ n < 8
    · (try simp (maxSteps := 1000000) (disch := first | omega | assumption | exact Nat.le_of_ble_eq_true rfl) only [go_sem, ↓mwp_block, simprocAttr])
      exact hK _ _ ⟨by simp [askE, hd, hn], rfl⟩
    · (try simp (maxSteps := 1000000) (disch := first | omega | assumption | exact Nat.le_of_ble_eq_true rfl) only [go_sem, ↓mwp_block, simprocAttr])
      exact hK _ _ ⟨by simp [askE, hd, hn], rfl⟩
  · rw [hd] at F hlo
    (try simp (maxSteps := 1000000) (disch := first | omega | assumption | exact Nat.le_of_ble_eq_true rfl) only [go_sem, ↓mwp_block, simprocAttr, F, hlo])
    exact hK _ _ ⟨by simp [askE, hd], rfl⟩

/-- Whether a file is there, its size, how much of it is safe. -/
def fileOf (D : Dk) (n : Int) : Option DF := if 0 ≤ n ∧ n < 8 then (D.fs.getD n.toNat none) else none
theorem fileOf_at {D : Dk} {zs : List Slot} {n : Int} (hz : zs.map dfOf = D.fs) (hn : 0 ≤ n ∧ n < 8) (hl : n.toNat < zs.length) : fileOf D n = dfOf zs[n.toNat] := by
  rw [fileOf, if_pos hn, ← hz, List.getD_eq_getElem?_getD, List.getElem?_map, List.getElem?_eq_getElem hl]
  rfl
theorem Has_nil (n : Int) (h : Heap) : CallsH Try.prog 45 [.pointer none, .int .i64 n] h fun v h' => v = .bool false ∧ h' = h := by
  (refine enterK c_disk_Disk_Has (Nat.le_of_ble_eq_true rfl) fun K hK => ?_; (try simp (maxSteps := 1000000) (disch := first | omega | assumption | exact Nat.le_of_ble_eq_true rfl) only [go_sem, ↓mwp_block, simprocAttr, ir_disk_Disk_Has]))
  exact hK _ _ ⟨rfl, rfl⟩
theorem Has_ok (n : Int) {h0 h : Heap} {l : List HP} {d : Nat} {D : Dk} (S : St h0 h (diskA d D :: l)) :
    CallsH Try.prog 45 [.pointer (some ⟨d, 0, none⟩), .int .i64 n] h fun v h' => v = .bool (fileOf D n).isSome ∧ h' = h := by
  obtain ⟨zs, hz, h8, S⟩ := diskA_open.1 S
  (refine enterK c_disk_Disk_Has (Nat.le_of_ble_eq_true rfl) fun K hK => ?_; (try simp (maxSteps := 1000000) (disch := first | omega | assumption | exact Nat.le_of_ble_eq_true rfl) only [go_sem, ↓mwp_block, simprocAttr, ir_disk_Disk_Has]))
  ((try clear F); have F := S.all; (try simp only [all_cons, all_nil, says_cell, and_true] at F))
  refine call_intro (is_ok n _) ?_
  rintro _ _ ⟨rfl, rfl⟩
  by_cases hn : 0 ≤ n ∧ n < 8
  · have hlt : n.toNat < zs.length := by omega
    have hc := dcells_at (cap := D.cap) (fuse := D.fuse) (lost := D.lost) hlt
    have hf := fileOf_at hz hn hlt
    rw [hf] at hK
    generalize zs[n.toNat] = z at hc hK
    obtain ⟨hn1, hn2⟩ := id hn
    cases z with
    | none =>
      (try simp (maxSteps := 1000000) (disch := first | omega | assumption | exact Nat.le_of_ble_eq_true rfl) only [go_sem, ↓mwp_block, simprocAttr, F, hc, Nat.mul_one, ptrOf])
      exact hK _ _ ⟨rfl, rfl⟩
    | some z =>
      (try simp (maxSteps := 1000000) (disch := first | omega | assumption | exact Nat.le_of_ble_eq_true rfl) only [go_sem, ↓mwp_block, simprocAttr, F, hc, Nat.mul_one, ptrOf])
      exact hK _ _ ⟨rfl, rfl⟩
  · (try simp (maxSteps := 1000000) (disch := first | omega | assumption | exact Nat.le_of_ble_eq_true rfl) only [go_sem, ↓mwp_block, simprocAttr])
    exact hK _ _ ⟨by rw [fileOf, if_neg hn]; rfl, rfl⟩
theorem Size_nil (n : Int) (h : Heap) : CallsH Try.prog 41 [.pointer none, .int .i64 n] h fun v h' => v = .int .i64 0 ∧ h' = h := by
  (refine enterK c_disk_Disk_Size (Nat.le_of_ble_eq_true rfl) fun K hK => ?_; (try simp (maxSteps := 1000000) (disch := first | omega | assumption | exact Nat.le_of_ble_eq_true rfl) only [go_sem, ↓mwp_block, simprocAttr, ir_disk_Disk_Size]))
  refine call_intro (Has_nil n _) ?_
  rintro _ _ ⟨rfl, rfl⟩
  (try simp (maxSteps := 1000000) (disch := first | omega | assumption | exact Nat.le_of_ble_eq_true rfl) only [go_sem, ↓mwp_block, simprocAttr])
  exact hK _ _ ⟨rfl, rfl⟩
theorem Size_ok (n : Int) {h0 h : Heap} {l : List HP} {d : Nat} {D : Dk} (S : St h0 h (diskA d D :: l)) :
    CallsH Try.prog 41 [.pointer (some ⟨d, 0, none⟩), .int .i64 n] h fun v h' => v = .int .i64 (szF (fileOf D n)) ∧ h' = h := by
  (refine enterK c_disk_Disk_Size (Nat.le_of_ble_eq_true rfl) fun K hK => ?_; (try simp (maxSteps := 1000000) (disch := first | omega | assumption | exact Nat.le_of_ble_eq_true rfl) only [go_sem, ↓mwp_block, simprocAttr, ir_disk_Disk_Size]))
  refine call_intro (Has_ok n S) ?_
  rintro _ _ ⟨rfl, rfl⟩
  obtain ⟨zs, hz, h8, S⟩ := diskA_open.1 S
  by_cases hn : 0 ≤ n ∧ n < 8
  · have hlt : n.toNat < zs.length := by omega
    have hc := dcells_at (cap := D.cap) (fuse := D.fuse) (lost := D.lost) hlt
    have hf := fileOf_at hz hn hlt
    have S := slot_pick hlt S
    rw [hf] at hK ⊢
    generalize zs[n.toNat] = z at hc S hK ⊢
    obtain ⟨hn1, hn2⟩ := id hn
    cases z with
    | none =>
      (try simp (maxSteps := 1000000) (disch := first | omega | assumption | exact Nat.le_of_ble_eq_true rfl) only [go_sem, ↓mwp_block, simprocAttr, dfOf, Option.map_none, Option.isSome_none])
      exact hK _ _ ⟨rfl, rfl⟩
    | some z =>
      obtain ⟨p, f⟩ := z
      obtain ⟨s, S⟩ := fileA_open.1 S
      obtain ⟨A, c, rfl⟩ := S.p1.sl
      ((try clear F); have F := S.all; (try simp only [all_cons, all_nil, says_cell, and_true] at F))
      (try simp (maxSteps := 1000000) (disch := first | omega | assumption | exact Nat.le_of_ble_eq_true rfl) only [go_sem, ↓mwp_block, simprocAttr, dfOf, Option.map_some, Option.isSome_some, F, hc, Nat.mul_one, ptrOf])
      exact hK _ _ ⟨rfl, rfl⟩
  · have hf : fileOf D n = none := by rw [fileOf, if_neg hn]
    rw [hf] at hK ⊢
    (try simp (maxSteps := 1000000) (disch := first | omega | assumption | exact Nat.le_of_ble_eq_true rfl) only [go_sem, ↓mwp_block, simprocAttr, Option.isSome_none])
    exact hK _ _ ⟨rfl, rfl⟩
def safeF : Option DF → Nat
  | none => 0
  | some f => f.safe
theorem Safe_nil (n : Int) (h : Heap) : CallsH Try.prog 40 [.pointer none, .int .i64 n] h fun v h' => v = .int .i64 0 ∧ h' = h := by
  (refine enterK c_disk_Disk_Safe (Nat.le_of_ble_eq_true rfl) fun K hK => ?_; (try simp (maxSteps := 1000000) (disch := first | omega | assumption | exact Nat.le_of_ble_eq_true rfl) only [go_sem, ↓mwp_block, simprocAttr, ir_disk_Disk_Safe]))
  refine call_intro (Has_nil n _) ?_
  rintro _ _ ⟨rfl, rfl⟩
  (try simp (maxSteps := 1000000) (disch := first | omega | assumption | exact Nat.le_of_ble_eq_true rfl) only [go_sem, ↓mwp_block, simprocAttr])
  exact hK _ _ ⟨rfl, rfl⟩
theorem Safe_ok (n : Int) {h0 h : Heap} {l : List HP} {d : Nat} {D : Dk} (S : St h0 h (diskA d D :: l)) :
    CallsH Try.prog 40 [.pointer (some ⟨d, 0, none⟩), .int .i64 n] h fun v h' => v = .int .i64 (safeF (fileOf D n)) ∧ h' = h := by
  (refine enterK c_disk_Disk_Safe (Nat.le_of_ble_eq_true rfl) fun K hK => ?_; (try simp (maxSteps := 1000000) (disch := first | omega | assumption | exact Nat.le_of_ble_eq_true rfl) only [go_sem, ↓mwp_block, simprocAttr, ir_disk_Disk_Safe]))
  refine call_intro (Has_ok n S) ?_
  rintro _ _ ⟨rfl, rfl⟩
  obtain ⟨zs, hz, h8, S⟩ := diskA_open.1 S
  by_cases hn : 0 ≤ n ∧ n < 8
  · have hlt : n.toNat < zs.length := by omega
    have hc := dcells_at (cap := D.cap) (fuse := D.fuse) (lost := D.lost) hlt
    have hf := fileOf_at hz hn hlt
    have S := slot_pick hlt S
    rw [hf] at hK ⊢
    generalize zs[n.toNat] = z at hc S hK ⊢
    obtain ⟨hn1, hn2⟩ := id hn
    cases z with
    | none =>
      (try simp (maxSteps := 1000000) (disch := first | omega | assumption | exact Nat.le_of_ble_eq_true rfl) only [go_sem, ↓mwp_block, simprocAttr, dfOf, Option.map_none, Option.isSome_none])
      exact hK _ _ ⟨rfl, rfl⟩
    | some z =>
      obtain ⟨p, f⟩ := z
      obtain ⟨s, S⟩ := fileA_open.1 S
      ((try clear F); have F := S.all; (try simp only [all_cons, all_nil, says_cell, and_true] at F))
      (try simp (maxSteps := 1000000) (disch := first | omega | assumption | exact Nat.le_of_ble_eq_true rfl) only [go_sem, ↓mwp_block, simprocAttr, dfOf, Option.map_some, Option.isSome_some, F, hc, Nat.mul_one, ptrOf])
      exact hK _ _ ⟨rfl, rfl⟩
  · have hf : fileOf D n = none := by rw [fileOf, if_neg hn]
    rw [hf] at hK ⊢
    (try simp (maxSteps := 1000000) (disch := first | omega | assumption | exact Nat.le_of_ble_eq_true rfl) only [go_sem, ↓mwp_block, simprocAttr, Option.isSome_none])
    exact hK _ _ ⟨rfl, rfl⟩
theorem Lost_nil (h : Heap) : CallsH Try.prog 57 [.pointer none] h fun v h' => v = .bool false ∧ h' = h := by
  (refine enterK c_disk_Disk_Lost (Nat.le_of_ble_eq_true rfl) fun K hK => ?_; (try simp (maxSteps := 1000000) (disch := first | omega | assumption | exact Nat.le_of_ble_eq_true rfl) only [go_sem, ↓mwp_block, simprocAttr, ir_disk_Disk_Lost]))
  exact hK _ _ ⟨rfl, rfl⟩
theorem Lost_ok {h0 h : Heap} {l : List HP} {d : Nat} {D : Dk} (S : St h0 h (diskA d D :: l)) :
    CallsH Try.prog 57 [.pointer (some ⟨d, 0, none⟩)] h fun v h' => v = .bool D.lost ∧ h' = h := by
  obtain ⟨zs, hz, h8, S⟩ := diskA_open.1 S
  have hlo := dcells_lost (cap := D.cap) (fuse := D.fuse) (lost := D.lost) h8
  (refine enterK c_disk_Disk_Lost (Nat.le_of_ble_eq_true rfl) fun K hK => ?_; (try simp (maxSteps := 1000000) (disch := first | omega | assumption | exact Nat.le_of_ble_eq_true rfl) only [go_sem, ↓mwp_block, simprocAttr, ir_disk_Disk_Lost]))
  ((try clear F); have F := S.all; (try simp only [all_cons, all_nil, says_cell, and_true] at F))
  (try simp (maxSteps := 1000000) (disch := first | omega | assumption | exact Nat.le_of_ble_eq_true rfl) only [go_sem, ↓mwp_block, simprocAttr, F, hlo])
  cases hd : D.lost
  · (try simp (maxSteps := 1000000) (disch := first | omega | assumption | exact Nat.le_of_ble_eq_true rfl) only [go_sem, ↓mwp_block, simprocAttr])
    exact hK _ _ ⟨by rw [hd], rfl⟩
  · (try simp (maxSteps := 1000000) (disch := first | omega | assumption | exact Nat.le_of_ble_eq_true rfl) only [go_sem, ↓mwp_block, simprocAttr])
    exact hK _ _ ⟨by rw [hd], rfl⟩
theorem Room_nil (h : Heap) : CallsH Try.prog 37 [.pointer none] h fun v h' => v = .int .i64 0 ∧ h' = h := by
  (refine enterK c_disk_Disk_Room (Nat.le_of_ble_eq_true rfl) fun K hK => ?_; (try simp (maxSteps := 1000000) (disch := first | omega | assumption | exact Nat.le_of_ble_eq_true rfl) only [go_sem, ↓mwp_block, simprocAttr, ir_disk_Disk_Room]))
  exact hK _ _ ⟨rfl, rfl⟩
theorem used_take (fs : List (Option DF)) {i : Nat} (hi : i < fs.length) : used (fs.take (i + 1)) = used (fs.take i) + szF fs[i] := by
  unfold used
  rw [List.take_succ_eq_append_getElem hi, List.map_append, List.sum_append]
  simp
theorem used_take_le (fs : List (Option DF)) (i : Nat) : used (fs.take i) ≤ used fs := by
  have : used fs = used (fs.take i) + used (fs.drop i) := by
    unfold used
    rw [← List.sum_append, ← List.map_append, List.take_append_drop]
  omega
theorem Room_ok {h0 h : Heap} {l : List HP} {d : Nat} {D : Dk} (S : St h0 h (diskA d D :: l)) (ok : D.ok) :
    CallsH Try.prog 37 [.pointer (some ⟨d, 0, none⟩)] h fun v h' => v = .int .i64 (D.cap - used D.fs) ∧ h' = h := by
  have hcap := ok.cap
  have hroom := ok.room
  have hlen := ok.len
  (refine enterK c_disk_Disk_Room (Nat.le_of_ble_eq_true rfl) fun K hK => ?_; (try simp (maxSteps := 1000000) (disch := first | omega | assumption | exact Nat.le_of_ble_eq_true rfl) only [go_sem, ↓mwp_block, simprocAttr, ir_disk_Disk_Room]))
  obtain ⟨zs, hz, h8, S'⟩ := diskA_open.1 S
  have F := S'.all
  simp only [all_cons, says_cell] at F
  have hc0 : (dcells D.cap zs D.fuse D.lost)[0]? = some (.int .i64 D.cap) := rfl
  (try simp (maxSteps := 1000000) (disch := first | omega | assumption | exact Nat.le_of_ble_eq_true rfl) only [go_sem, ↓mwp_block, simprocAttr, F, hc0])
  refine loop_intro (fun ρ h' => h' = h ∧ ρ 0 = .pointer (some ⟨d, 0, none⟩) ∧ ∃ i : Nat, ρ 11 = .int .i64 i ∧ i ≤ 8 ∧ ρ 3 = .int .i64 (D.cap - used (D.fs.take i))) (fun ρ _ => 8 - (iv (ρ 11)).toNat) ?_ ?_
  · (try simp (maxSteps := 1000000) (disch := first | omega | assumption | exact Nat.le_of_ble_eq_true rfl) only [go_sem, ↓mwp_block, simprocAttr])
    exact ⟨0, rfl, by omega, by simp [used]⟩
  · rintro ρ h' J hJ ⟨hh, e0, i, e11, hi, e3⟩
    subst hh
    (try simp (maxSteps := 1000000) (disch := first | omega | assumption | exact Nat.le_of_ble_eq_true rfl) only [go_sem, ↓mwp_block, simprocAttr, e11])
    refine cond_dec (fun hg => ?_) (fun hg => ?_)
    · have hi8 : i < D.fs.length := by omega
      have hsu := used_take D.fs hi8
      have hle := used_take_le D.fs (i + 1)
      have hfo : fileOf D i = D.fs[i] := by
        rw [fileOf, if_pos (by omega), Int.toNat_natCast, List.getD_eq_getElem?_getD, List.getElem?_eq_getElem hi8]
        rfl
      (try simp (maxSteps := 1000000) (disch := first | omega | assumption | exact Nat.le_of_ble_eq_true rfl) only [go_sem, ↓mwp_block, simprocAttr, e0, e11, e3])
      refine call_intro (Size_ok i S) ?_
      rintro _ _ ⟨rfl, rfl⟩
      rw [hfo]
      (try simp (maxSteps := 1000000) (disch := first | omega | assumption | exact Nat.le_of_ble_eq_true rfl) only [go_sem, ↓mwp_block, simprocAttr, e11])
      refine hJ _ _ ?_ ?_
      · (try simp (maxSteps := 1000000) (disch := first | omega | assumption | exact Nat.le_of_ble_eq_true rfl) only [go_sem, ↓mwp_block, simprocAttr, e0, e11])
        refine ⟨i + 1, rfl, by omega, ?_⟩
        rw [hsu]
        congr 1
        omega
      · (try simp (maxSteps := 1000000) (disch := first | omega | assumption | exact Nat.le_of_ble_eq_true rfl) only [go_sem, ↓mwp_block, simprocAttr, e11])
        omega
    · obtain rfl : i = 8 := by omega
      (try simp (maxSteps := 1000000) (disch := first | omega | assumption | exact Nat.le_of_ble_eq_true rfl) only [go_sem, ↓mwp_block, simprocAttr, e3])
      exact hK _ _ ⟨by rw [← hlen, List.take_length], rfl⟩
end Go.Proofs.Ytnjjdpeglkiifaa.MX
