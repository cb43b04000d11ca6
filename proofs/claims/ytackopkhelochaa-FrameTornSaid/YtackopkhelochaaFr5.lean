/- Ranges over the frames of some bytes; the place behind the last one. -/
import Derived.Test.YtackopkhelochaaFr4
namespace Go.Proofs.Ytackopkhelochaa.MX
open Go Go.Proofs
set_option linter.unusedSimpArgs false
set_option linter.unusedVariables false
set_option maxRecDepth 100000

abbrev defO : Obj := .deferred (some [])
theorem rangeAll {N : Nat} {g : Operand} {ps : Array Tmp} {am bd : Code} {Q : QY} {D : List Nat} {ρ : Env} {h : Heap} {t1 : Tag am} {t2 : Tag bd} {t3 : Tag Q} {t4 : Tag ρ} {t5 : Tag h} {g' : Opd} {p : Nat} {A : Option Addr} {c : Nat} {b : List UInt8} {h0 : Heap} {L0 : List HP}
    (I : Nat → List HP → Prop) (X : Nat → List HP → Prop) (hg : opd N g = some g') (hev : ev ρ g' = .func (.func 89) #[] #[.pointer (some ⟨p, 0, none⟩)])
    (S : St h0 h (cellA p [.slice A b.length c] 22 :: L0)) (hI0 : I 0 L0) (hc : b.length ≤ c) (hc2 : c < 9223372036854775808) (hl : b.length < 10000000)
    (harr : ∀ i L h, I i L → St h0 h L → Arr bEnc 1 h A b) (hps : ps.size = 2) (hlt : ∀ p ∈ ps.toList, p < N) (hoa : okR Try.prog N false am = true) (hob : okR Try.prog N false bd = true)
    (hbody : ∀ (rec : LoopState → Option Code → Loop) (yl Dd i : Nat) (x : List UInt8) (v : Value) (L : List HP) (h : Heap), (framesOf b)[i]? = some x → I i L →
      St h0 h (ownA bEnc 1 5 v x :: objA yl (.loop (rec .ready none)) :: objA Dd defO :: cellA p [.slice A b.length c] 22 :: L) →
      roundY Try.prog N yl rec (compC Try.prog N am) (compC Try.prog N bd) (setTmps ps.toList [.int .i64 (endOf ((framesOf b).take (i + 1)) : Nat), v] ρ) h fun r h' =>
        (r = .bool true ∧ ∃ L', I (i + 1) L' ∧ St h0 h' (objA yl (.loop (rec .ready none)) :: objA Dd defO :: cellA p [.slice A b.length c] 22 :: L')) ∨
        (r = .bool false ∧ ∃ id L', X id L' ∧ St h0 h' (objA yl (.loop (rec .done (some (.exit id)))) :: objA Dd defO :: cellA p [.slice A b.length c] 22 :: L')))
    (hdone : ∀ Dd h' L', I (framesOf b).length L' → St h0 h' (objA Dd defO :: L') → Q .normal (Dd :: D) ρ h')
    (hstop : ∀ Dd h' id L', X id L' → St h0 h' (objA Dd defO :: L') → Q (.exit id) (Dd :: D) ρ h') : rangeYT Try.prog N g ps am bd Q D ρ h t1 t2 t3 t4 t5 := by
  refine ⟨g', _, _, hg, hev, by kernel_rfl, fun rec hrec => ?_⟩
  have S1 := (S.objNew (o := defO)).objNew (o := .loop (rec .ready none))
  rw [Array.size_push] at S1
  refine (All1_ok (h.size + 1) (p := p) (A := A) (c := c) (b := b) hc hc2 hl
    (fun i h' => ∃ L, I i L ∧ St h0 h' (objA (h.size + 1) (.loop (rec .ready none)) :: objA h.size defO :: cellA p [.slice A b.length c] 22 :: L))
    (fun h' => ∃ id L, X id L ∧ St h0 h' (objA (h.size + 1) (.loop (rec .done (some (.exit id)))) :: objA h.size defO :: cellA p [.slice A b.length c] 22 :: L))
    ?_ ?_ ?_ ?_ ⟨_, hI0, S1⟩).mono ?_
  · rintro i h' ⟨L, _, S⟩
    exact st_rd1 S.p2
  · rintro i h' ⟨L, hI, S⟩
    exact harr i L h' hI S.tl.tl.tl
  · rintro i h1 h2 ⟨L, hI, S⟩ hf
    exact ⟨L, hI, S.frame hf⟩
  · rintro i x h1 h2 v hx ⟨L, hI, S⟩ hf ho
    have S2 : St h0 h2 (ownA bEnc 1 5 v x :: _) := S.ownNew hf ho
    exact yield_ok hrec S2.tl.obj (by simp [hps]) hlt hoa hob (hbody rec _ _ i x v L h2 hx hI S2)
  · rintro v h' (⟨L, hI, S⟩ | ⟨id, L, hX, S⟩)
    · exact ⟨.ready, none, by simp, S.obj, hdone _ _ L hI (S.objSet.tl.d1)⟩
    · exact ⟨.done, some (.exit id), by simp, S.obj, hstop _ _ id L hX (S.objSet.tl.d1)⟩

theorem setTmps_2 {a b : Nat} {u v : Value} {ρ : Env} : setTmps [a, b] [u, v] ρ = upd (upd ρ a u) b v := rfl

theorem end1 {P : Program} {rs : List MRes} {R : Value → Heap → Prop} {ρ : Env} {h0 h : Heap} {L : List HP} {Dd : Nat} (S : St h0 h (objA Dd defO :: L)) (hk : ∀ h', St h0 h' L → bindT (resVs ρ h' rs) (fun vs => R (oneOf vs) h') ⟨⟩) : endY rs R [Dd] ρ h :=
  ⟨⟨S.obj, trivial⟩, hk _ S.objSet.tl⟩
theorem of_round {P : Program} {N l : Nat} {rec : LoopState → Option Code → Loop} {ca cb : MCode} {ρ : Env} {h : Heap} {K : Value → Heap → Prop} (hr : mwpY P N ca (qA P N l rec cb K) [] ρ h) : roundY P N l rec ca cb ρ h K := hr
theorem Whole_ok {h0 h : Heap} {l : List HP} {A : Option Addr} {c : Nat} {b : List UInt8} (S : St h0 h l) (ha : ∀ h', St h0 h' l → Arr bEnc 1 h' A b) (hc : b.length ≤ c) (hc2 : c < 9223372036854775808) (hl : b.length < 10000000) :
    CallsH Try.prog 39 [.slice A b.length c] h fun r h' => r = .int .i64 (endOf (framesOf b) : Nat) ∧ St h0 h' l := by
  refine enterY c_frame_Whole (by kernel_rfl) (Nat.le_of_ble_eq_true rfl) fun K hK => ?_
  (try simp (maxSteps := 1000000) (disch := first | omega | assumption | exact Nat.le_of_ble_eq_true rfl) only [go_sem, ↓mwp_block, simprocAttr, ir_frame_Whole])
  (refine st_alloc S ?_; clear S; intro n h S; (try simp only [splice_cons, splice_nil, List.set_cons_zero, List.set_cons_succ, Nat.zero_add, Nat.reduceAdd, List.cons_append, List.nil_append] at S); ((try clear F); have F := S.all; (try simp only [all_cons, all_nil, says_cell, and_true] at F)))
  (try simp (maxSteps := 1000000) (disch := first | omega | assumption | exact Nat.le_of_ble_eq_true rfl) only [go_sem, ↓mwp_block, simprocAttr])
  (refine st_store (by first | exact S | exact S.p1 | exact S.p2 | exact S.p3 | exact S.p4 | exact S.p5 | exact S.p6 | exact S.p7 | exact S.p8 | exact S.p9 | exact S.p10 | exact S.p11) (by rfl) (by rfl) (Nat.le_of_ble_eq_true rfl) ?_; clear S; intro h S; (try simp only [splice_cons, splice_nil, List.set_cons_zero, List.set_cons_succ, Nat.zero_add, Nat.reduceAdd, List.cons_append, List.nil_append] at S); ((try clear F); have F := S.all; (try simp only [all_cons, all_nil, says_cell, and_true] at F)))
  (try simp (maxSteps := 1000000) (disch := first | omega | assumption | exact Nat.le_of_ble_eq_true rfl) only [go_sem, ↓mwp_block, simprocAttr])
  refine call_intro (All_ok S) ?_
  rintro _ h ⟨p, rfl, S⟩
  (try simp (maxSteps := 1000000) (disch := first | omega | assumption | exact Nat.le_of_ble_eq_true rfl) only [go_sem, ↓mwp_block, simprocAttr])
  refine rangeAll (b := b) (fun i L => L = cellA n [.int .i64 (endOf ((framesOf b).take i) : Nat)] 3 :: l) (fun _ _ => False) (g' := .t 6) rfl (by (try simp (maxSteps := 1000000) (disch := first | omega | assumption | exact Nat.le_of_ble_eq_true rfl) only [go_sem, ↓mwp_block, simprocAttr])) S (by simp [endOf]) hc hc2 hl ?_ rfl (by decide) (by kernel_rfl) (by kernel_rfl) ?_ ?_ ?_
  · rintro i L h' rfl S
    exact ha h' S.tl
  · rintro rec yl Dd i x v L h hx rfl S
    have hil : i < (framesOf b).length := (List.getElem?_eq_some_iff.1 hx).1
    refine of_round ?_
    conv => arg 3; reduce
    (try simp (maxSteps := 1000000) (disch := first | omega | assumption | exact Nat.le_of_ble_eq_true rfl) only [go_sem, ↓mwp_block, simprocAttr, setTmps_2])
    refine qA_intro S.p1.obj ?_
    conv => arg 3; reduce
    have S := S.p1.objSet (o' := .loop (rec .busy none))
    (try simp (maxSteps := 1000000) (disch := first | omega | assumption | exact Nat.le_of_ble_eq_true rfl) only [go_sem, ↓mwp_block, simprocAttr, setTmps_2])
    refine st_store S.p4 (by rfl) (by rfl) (Nat.le_of_ble_eq_true rfl) ?_
    clear S
    intro h S
    (try simp only [splice_cons, splice_nil, List.set_cons_zero, List.set_cons_succ, Nat.zero_add, Nat.reduceAdd, List.cons_append, List.nil_append] at S)
    (try simp (maxSteps := 1000000) (disch := first | omega | assumption | exact Nat.le_of_ble_eq_true rfl) only [go_sem, ↓mwp_block, simprocAttr])
    refine ⟨S.p1.obj, .inl ⟨_, rfl, ?_⟩⟩
    exact S.p1.objSet.p2.tl.p3.p3.p2
  · rintro Dd h' L' rfl S
    ((try clear F); have F := S.all; (try simp only [all_cons, all_nil, says_cell, and_true] at F))
    (try simp (maxSteps := 1000000) (disch := first | omega | assumption | exact Nat.le_of_ble_eq_true rfl) only [go_sem, ↓mwp_block, simprocAttr, F])
    refine end1 (P := Try.prog) S ?_
    intro h S
    (try simp (maxSteps := 1000000) (disch := first | omega | assumption | exact Nat.le_of_ble_eq_true rfl) only [go_sem, ↓mwp_block, simprocAttr])
    refine hK _ _ ⟨?_, S.tl⟩
    rw [List.take_length]
  · rintro Dd h' id L' hX
    exact hX.elim
end Go.Proofs.Ytackopkhelochaa.MX
