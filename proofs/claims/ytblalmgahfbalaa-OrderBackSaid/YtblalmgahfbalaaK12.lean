/- Texts in one file: Tb2, MXR, MXO, MXP, Tb3, By2. -/
import Derived.Test.YtblalmgahfbalaaK11
import Derived.Test.YtblalmgahfbalaaK07
import Derived.OpenShut
import Derived.Deep.Slices

/- A table's bytes, as the program writes them. -/
namespace Go.Proofs.Ytblalmgahfbalaa.MX
open Go Go.Proofs
set_option linter.unusedSimpArgs false
set_option linter.unusedVariables false

def flagsOf (p : Pol) : Int := (if p.fin then 1 else 0) + (if p.exc then 2 else 0) + (if p.cre then 4 else 0)
theorem flags_ok (p : Pol) (h : Heap) : CallsH Try.prog 69 [.agg p.enc.toArray] h fun v h' => v = .int .i64 (flagsOf p) ∧ Fr h h' [] := by
  have S := St.nil h
  (refine enterK c_table_flags (Nat.le_of_ble_eq_true rfl) fun K hK => ?_; (try simp (maxSteps := 1000000) (disch := first | omega | assumption | exact Nat.le_of_ble_eq_true rfl) only [go_sem, ↓mwp_block, simprocAttr, ir_table_flags]))
  (refine st_alloc S ?_; clear S; intro b h S; (try simp only [splice_cons, splice_nil, List.set_cons_zero, List.set_cons_succ, Nat.zero_add, Nat.reduceAdd, List.cons_append, List.nil_append] at S); ((try clear F); have F := S.all; (try simp only [all_cons, all_nil, says_cell, and_true] at F)))
  obtain ⟨w, fin, exc, cre, f0, f1, f2, f3, s0, t0, s1, t1, s2, t2, s3, t3⟩ := p
  cases fin <;> cases exc <;> cases cre <;> ((try simp (maxSteps := 1000000) (disch := first | omega | assumption | exact Nat.le_of_ble_eq_true rfl) only [go_sem, ↓mwp_block, simprocAttr, F, Pol.enc]); exact hK _ _ ⟨rfl, S.fr⟩)

theorem fit1 {v : Int} {bs : List UInt8} (h0 : 0 ≤ v) (h1 : v < 256) : putBs 1 v bs false = bs ++ le 1 v ∧ putBad 1 v false = false := by
  have : putBad 1 v false = false := by simp [putBad]; omega
  exact ⟨by simp [putBs, this], this⟩
theorem fit2 {v : Int} {bs : List UInt8} (h0 : 0 ≤ v) (h1 : v < 65536) : putBs 2 v bs false = bs ++ le 2 v ∧ putBad 2 v false = false := by
  have : putBad 2 v false = false := by simp [putBad]; omega
  exact ⟨by simp [putBs, this], this⟩
theorem fit4 {v : Int} {bs : List UInt8} (h0 : 0 ≤ v) (h1 : v < 4294967296) : putBs 4 v bs false = bs ++ le 4 v ∧ putBad 4 v false = false := by
  have : putBad 4 v false = false := by simp [putBad]; omega
  exact ⟨by simp [putBs, this], this⟩

def Pol.bytes (p : Pol) : List UInt8 := le 2 p.w ++ (le 1 (flagsOf p) ++ (le 2 p.f0 ++ (le 2 p.f1 ++ (le 2 p.f2 ++ (le 2 p.f3 ++ (le 2 p.s0 ++ (le 1 p.t0 ++ (le 2 p.s1 ++ (le 1 p.t1 ++ (le 2 p.s2 ++ (le 1 p.t2 ++ (le 2 p.s3 ++ le 1 p.t3))))))))))))
theorem Pol.bytes_len (p : Pol) : p.bytes.length = 23 := by simp [Pol.bytes, le_length]
theorem bytes_len : ∀ l : List Pol, (l.flatMap Pol.bytes).length = l.length * 23
  | [] => rfl
  | p :: l => by simp [bytes_len l, Pol.bytes_len]; omega
def encT (l : List Pol) : List UInt8 := le 2 l.length ++ l.flatMap Pol.bytes
theorem flagsOf_lt (p : Pol) : 0 ≤ flagsOf p ∧ flagsOf p < 8 := by
  unfold flagsOf
  (repeat' split) <;> omega
theorem out_new {h0 h : Heap} {l : List HP} {o : Nat} (S : St h0 h (cellA o [.slice none 0 0, .bool false] 89 :: l)) : St h0 h (outA o [] false :: l) :=
  outA_open.2 ⟨_, (S.nilS).swap⟩

set_option maxHeartbeats 8000000 in
theorem Encode_ok {h0 h : Heap} {l : List HP} {A : Option Addr} {c : Nat} {xs : List Pol} (S : St h0 h l) (ha : ∀ h', St h0 h' l → Arr Pol.enc 16 h' A xs) (hl : xs.length < 1000000) :
    CallsH Try.prog 43 [.slice A xs.length c] h fun v h' => ∃ s e, v = .tuple #[s, .int .i64 e] ∧ ((RightT xs ∧ e = 0 ∧ St h0 h' (ownA bEnc 1 5 s (encT xs) :: l)) ∨ (¬ RightT xs ∧ e = 1 ∧ s = .slice none 0 0 ∧ St h0 h' l)) := by
  (refine enterK c_table_Encode (Nat.le_of_ble_eq_true rfl) fun K hK => ?_; (try simp (maxSteps := 1000000) (disch := first | omega | assumption | exact Nat.le_of_ble_eq_true rfl) only [go_sem, ↓mwp_block, simprocAttr, ir_table_Encode]))
  refine call_intro (Right_ok (ha _ S) rfl hl) ?_
  rintro _ h ⟨rfl, hf⟩
  have S := S.frame hf
  (try simp (maxSteps := 1000000) (disch := first | omega | assumption | exact Nat.le_of_ble_eq_true rfl) only [go_sem, ↓mwp_block, simprocAttr])
  refine cond_decn (fun hn => ?_) (fun hr => ?_)
  · (try simp (maxSteps := 1000000) (disch := first | omega | assumption | exact Nat.le_of_ble_eq_true rfl) only [go_sem, ↓mwp_block, simprocAttr])
    exact hK _ _ ⟨_, _, rfl, .inr ⟨hn, rfl, rfl, S⟩⟩
  · have h16 := hr.1
    (try simp (maxSteps := 1000000) (disch := first | omega | assumption | exact Nat.le_of_ble_eq_true rfl) only [go_sem, ↓mwp_block, simprocAttr])
    (refine st_alloc S ?_; clear S; intro o h S; (try simp only [splice_cons, splice_nil, List.set_cons_zero, List.set_cons_succ, Nat.zero_add, Nat.reduceAdd, List.cons_append, List.nil_append] at S); ((try clear F); have F := S.all; (try simp only [all_cons, all_nil, says_cell, and_true] at F)))
    (try simp (maxSteps := 1000000) (disch := first | omega | assumption | exact Nat.le_of_ble_eq_true rfl) only [go_sem, ↓mwp_block, simprocAttr])
    refine call_intro (U16_ok _ (out_new S) ⟨by omega, by omega⟩ (by simp)) fun r h S => ?_
    rw [(fit2 (by omega) (by omega)).1, (fit2 (v := (xs.length : Int)) (bs := []) (by omega) (by omega)).2, List.nil_append] at S
    (try simp (maxSteps := 1000000) (disch := first | omega | assumption | exact Nat.le_of_ble_eq_true rfl) only [go_sem, ↓mwp_block, simprocAttr])
    refine loop_intro (fun ρ h' => ρ 4 = .pointer (some ⟨o, 0, none⟩) ∧ ρ 17 = .slice A xs.length c ∧ ρ 18 = .int .i64 xs.length ∧ ∃ i : Nat, ρ 19 = .int .i64 i ∧ i ≤ xs.length ∧ St h0 h' (outA o (le 2 xs.length ++ (xs.take i).flatMap Pol.bytes) false :: l)) (fun ρ _ => xs.length - (iv (ρ 19)).toNat) ?_ ?_
    · (try simp (maxSteps := 1000000) (disch := first | omega | assumption | exact Nat.le_of_ble_eq_true rfl) only [go_sem, ↓mwp_block, simprocAttr])
      exact ⟨0, rfl, Nat.zero_le _, by simpa using S⟩
    · clear S F
      rintro ρ h J hJ ⟨e4, e17, e18, i, e19, hi, S⟩
      (try simp (maxSteps := 1000000) (disch := first | omega | assumption | exact Nat.le_of_ble_eq_true rfl) only [go_sem, ↓mwp_block, simprocAttr, e18, e19])
      refine cond_dec (fun hg => ?_) (fun hg => ?_)
      · have hlt : i < xs.length := by omega
        obtain ⟨b, off, rfl, hr1⟩ := (ha _ S.tl).at hlt
        have hp := hr.2 xs[i] (List.getElem_mem hlt)
        have htk : (xs.take (i + 1)).flatMap Pol.bytes = (xs.take i).flatMap Pol.bytes ++ xs[i].bytes := by
          rw [List.take_succ_eq_append_getElem hlt, List.flatMap_append]; simp
        generalize xs[i] = p at hr1 hp htk
        obtain ⟨⟨p0, p1, p2, p3⟩, ⟨⟨q0, u0⟩, ⟨q1, u1⟩, ⟨q2, u2⟩, q3, u3⟩, w0, w1⟩ := hp
        simp only [okPts] at p0 p1 p2 p3 q0 q1 q2 q3
        have hfl := flagsOf_lt p
        generalize hbs : le 2 (xs.length : Int) ++ (xs.take i).flatMap Pol.bytes = bs at S
        have hbl : bs.length ≤ 400 := by rw [← hbs, List.length_append, bytes_len, le_length, List.length_take]; omega
        ((try clear F); have F := S.all; (try simp only [all_cons, all_nil, says_cell, and_true] at F))
        (try simp (maxSteps := 1000000) (disch := first | omega | assumption | exact Nat.le_of_ble_eq_true rfl) only [go_sem, ↓mwp_block, simprocAttr, e4, e17, e19, hr1])
        (refine st_alloc S ?_; clear S; intro g h S; (try simp only [splice_cons, splice_nil, List.set_cons_zero, List.set_cons_succ, Nat.zero_add, Nat.reduceAdd, List.cons_append, List.nil_append] at S); ((try clear F); have F := S.all; (try simp only [all_cons, all_nil, says_cell, and_true] at F)))
        (try simp (maxSteps := 1000000) (disch := first | omega | assumption | exact Nat.le_of_ble_eq_true rfl) only [go_sem, ↓mwp_block, simprocAttr, e4, F, Pol.enc])
        (refine st_store (by first | exact S | exact S.p1 | exact S.p2 | exact S.p3 | exact S.p4 | exact S.p5 | exact S.p6 | exact S.p7 | exact S.p8 | exact S.p9 | exact S.p10 | exact S.p11) (by rfl) (by rfl) (Nat.le_of_ble_eq_true rfl) ?_; clear S; intro h S; (try simp only [splice_cons, splice_nil, List.set_cons_zero, List.set_cons_succ, Nat.zero_add, Nat.reduceAdd, List.cons_append, List.nil_append] at S); ((try clear F); have F := S.all; (try simp only [all_cons, all_nil, says_cell, and_true] at F)))
        (try simp (maxSteps := 1000000) (disch := first | omega | assumption | exact Nat.le_of_ble_eq_true rfl) only [go_sem, ↓mwp_block, simprocAttr, e4, F])
        refine call_intro (U16_ok _ (by first | exact S | exact S.p1 | exact S.p2 | exact S.p3 | exact S.p4 | exact S.p5 | exact S.p6 | exact S.p7 | exact S.p8 | exact S.p9 | exact S.p10 | exact S.p11) ⟨by omega, by omega⟩ (by (try simp only [List.length_append, le_length]); omega)) fun r h S => ?_
        rw [(fit2 (by omega) (by omega)).1, (fit2 (bs := []) (by omega) (by omega)).2] at S
        ((try clear F); have F := S.all; (try simp only [all_cons, all_nil, says_cell, and_true] at F))
        (try simp (maxSteps := 1000000) (disch := first | omega | assumption | exact Nat.le_of_ble_eq_true rfl) only [go_sem, ↓mwp_block, simprocAttr, e4, F])
        refine call_intro (flags_ok p _) ?_
        rintro _ h ⟨rfl, hf⟩
        have S := S.frame hf
        (try simp (maxSteps := 1000000) (disch := first | omega | assumption | exact Nat.le_of_ble_eq_true rfl) only [go_sem, ↓mwp_block, simprocAttr, e4])
        refine call_intro (U8_ok _ (by first | exact S | exact S.p1 | exact S.p2 | exact S.p3 | exact S.p4 | exact S.p5 | exact S.p6 | exact S.p7 | exact S.p8 | exact S.p9 | exact S.p10 | exact S.p11) ⟨by omega, by omega⟩ (by (try simp only [List.length_append, le_length]); omega)) fun r h S => ?_
        rw [(fit1 (by omega) (by omega)).1, (fit1 (bs := []) (by omega) (by omega)).2] at S
        ((try clear F); have F := S.all; (try simp only [all_cons, all_nil, says_cell, and_true] at F))
        (try simp (maxSteps := 1000000) (disch := first | omega | assumption | exact Nat.le_of_ble_eq_true rfl) only [go_sem, ↓mwp_block, simprocAttr, e4, F])
        refine loop_unroll 5 ?_
        (try simp (maxSteps := 1000000) (disch := first | omega | assumption | exact Nat.le_of_ble_eq_true rfl) only [go_sem, ↓mwp_block, simprocAttr, e4])
        iterate 4
          refine call_intro (U16_ok _ (by first | exact S | exact S.p1 | exact S.p2 | exact S.p3 | exact S.p4 | exact S.p5 | exact S.p6 | exact S.p7 | exact S.p8 | exact S.p9 | exact S.p10 | exact S.p11) ⟨by omega, by omega⟩ (by (try simp only [List.length_append, le_length]); omega)) fun r h S => ?_
          rw [(fit2 (by omega) (by omega)).1, (fit2 (bs := []) (by omega) (by omega)).2] at S
          ((try clear F); have F := S.all; (try simp only [all_cons, all_nil, says_cell, and_true] at F))
          (try simp (maxSteps := 1000000) (disch := first | omega | assumption | exact Nat.le_of_ble_eq_true rfl) only [go_sem, ↓mwp_block, simprocAttr, e4])
        (try simp (maxSteps := 1000000) (disch := first | omega | assumption | exact Nat.le_of_ble_eq_true rfl) only [go_sem, ↓mwp_block, simprocAttr, e4, F])
        refine loop_unroll 5 ?_
        (try simp (maxSteps := 1000000) (disch := first | omega | assumption | exact Nat.le_of_ble_eq_true rfl) only [go_sem, ↓mwp_block, simprocAttr, e4])
        iterate 4
          (refine st_alloc S ?_; clear S; intro q h S; (try simp only [splice_cons, splice_nil, List.set_cons_zero, List.set_cons_succ, Nat.zero_add, Nat.reduceAdd, List.cons_append, List.nil_append] at S); ((try clear F); have F := S.all; (try simp only [all_cons, all_nil, says_cell, and_true] at F)))
          (try simp (maxSteps := 1000000) (disch := first | omega | assumption | exact Nat.le_of_ble_eq_true rfl) only [go_sem, ↓mwp_block, simprocAttr, e4, F])
          (refine st_store (by first | exact S | exact S.p1 | exact S.p2 | exact S.p3 | exact S.p4 | exact S.p5 | exact S.p6 | exact S.p7 | exact S.p8 | exact S.p9 | exact S.p10 | exact S.p11) (by rfl) (by rfl) (Nat.le_of_ble_eq_true rfl) ?_; clear S; intro h S; (try simp only [splice_cons, splice_nil, List.set_cons_zero, List.set_cons_succ, Nat.zero_add, Nat.reduceAdd, List.cons_append, List.nil_append] at S); ((try clear F); have F := S.all; (try simp only [all_cons, all_nil, says_cell, and_true] at F)))
          (try simp (maxSteps := 1000000) (disch := first | omega | assumption | exact Nat.le_of_ble_eq_true rfl) only [go_sem, ↓mwp_block, simprocAttr, e4, F])
          refine call_intro (U16_ok _ (by first | exact S | exact S.p1 | exact S.p2 | exact S.p3 | exact S.p4 | exact S.p5 | exact S.p6 | exact S.p7 | exact S.p8 | exact S.p9 | exact S.p10 | exact S.p11) ⟨by omega, by omega⟩ (by (try simp only [List.length_append, le_length]); omega)) fun r h S => ?_
          rw [(fit2 (by omega) (by omega)).1, (fit2 (bs := []) (by omega) (by omega)).2] at S
          ((try clear F); have F := S.all; (try simp only [all_cons, all_nil, says_cell, and_true] at F))
          (try simp (maxSteps := 1000000) (disch := first | omega | assumption | exact Nat.le_of_ble_eq_true rfl) only [go_sem, ↓mwp_block, simprocAttr, e4, F])
          refine call_intro (U8_ok _ (by first | exact S | exact S.p1 | exact S.p2 | exact S.p3 | exact S.p4 | exact S.p5 | exact S.p6 | exact S.p7 | exact S.p8 | exact S.p9 | exact S.p10 | exact S.p11) ⟨by omega, by omega⟩ (by (try simp only [List.length_append, le_length]); omega)) fun r h S => ?_
          rw [(fit1 (by omega) (by omega)).1, (fit1 (bs := []) (by omega) (by omega)).2] at S
          ((try clear F); have F := S.all; (try simp only [all_cons, all_nil, says_cell, and_true] at F))
          (try simp (maxSteps := 1000000) (disch := first | omega | assumption | exact Nat.le_of_ble_eq_true rfl) only [go_sem, ↓mwp_block, simprocAttr, e4])
        have S := S.d1.d1.d1.d1.d1
        (try simp (maxSteps := 1000000) (disch := first | omega | assumption | exact Nat.le_of_ble_eq_true rfl) only [go_sem, ↓mwp_block, simprocAttr, e19])
        refine hJ _ _ ?_ ?_
        · (try simp (maxSteps := 1000000) (disch := first | omega | assumption | exact Nat.le_of_ble_eq_true rfl) only [go_sem, ↓mwp_block, simprocAttr, e4, e17, e18, e19])
          refine ⟨i + 1, rfl, by omega, ?_⟩
          rw [htk]
          simpa only [Pol.bytes, ← hbs, List.append_assoc] using S
        · (try simp (maxSteps := 1000000) (disch := first | omega | assumption | exact Nat.le_of_ble_eq_true rfl) only [go_sem, ↓mwp_block, simprocAttr, e19])
          omega
      · obtain rfl : i = xs.length := by omega
        rw [List.take_length] at S
        (try simp (maxSteps := 1000000) (disch := first | omega | assumption | exact Nat.le_of_ble_eq_true rfl) only [go_sem, ↓mwp_block, simprocAttr, e4])
        refine call_intro (End_ok S (by rw [List.length_append, bytes_len, le_length]; omega)) ?_
        rintro _ h ⟨s, rfl, S⟩
        (try simp (maxSteps := 1000000) (disch := first | omega | assumption | exact Nat.le_of_ble_eq_true rfl) only [go_sem, ↓mwp_block, simprocAttr])
        exact hK _ _ ⟨_, _, rfl, .inl ⟨hr, rfl, S.d1⟩⟩
end Go.Proofs.Ytblalmgahfbalaa.MX

/- The engine, part R: from a walk over heaps to what a row asks. -/
namespace Go.Proofs.Ytblalmgahfbalaa.MX
open Go Go.RowKit
theorem toBelow {P : Program} {f : FuncId} {args : List Value} {W : World} (hc : CallsH P f args W.heap fun v h' => v = .bool true ∧ Fr W.heap h' []) :
    Calls P f args.toArray W fun e w' => e = .returned (.bool true) ∧ Below W.heap.size W w' := by
  refine (hc W rfl).mono ?_
  rintro e w' ⟨v, rfl, ha, rfl, hf⟩
  exact ⟨rfl, ha.1, ha.2.1, ha.2.2, hf.size, fun k hk => hf.same k hk (by simp)⟩
theorem wf_i64 {n : Int} (h : (Lit.int .i64 n).wf = true) : -9223372036854775808 ≤ n ∧ n < 9223372036854775808 := by
  simp [Lit.wf, IntKind.min, IntKind.max, IntKind.signed, IntKind.bits] at h
  omega
theorem wf_u8 {n : Int} (h : (Lit.int .u8 n).wf = true) : 0 ≤ n ∧ n < 256 := by
  simp [Lit.wf, IntKind.min, IntKind.max, IntKind.signed, IntKind.bits] at h
  omega
theorem wf_u16 {n : Int} (h : (Lit.int .u16 n).wf = true) : 0 ≤ n ∧ n < 65536 := by
  simp [Lit.wf, IntKind.min, IntKind.max, IntKind.signed, IntKind.bits] at h
  omega
theorem wf_u32 {n : Int} (h : (Lit.int .u32 n).wf = true) : 0 ≤ n ∧ n < 4294967296 := by
  simp [Lit.wf, IntKind.min, IntKind.max, IntKind.signed, IntKind.bits] at h
  omega
theorem wf_u64 {n : Int} (h : (Lit.int .u64 n).wf = true) : 0 ≤ n ∧ n < 18446744073709551616 := by
  simp [Lit.wf, IntKind.min, IntKind.max, IntKind.signed, IntKind.bits] at h
  omega
end Go.Proofs.Ytblalmgahfbalaa.MX

/- The engine, part O: what an argument's reading says of its cells. -/
namespace Go.Proofs.Ytblalmgahfbalaa.MX
open Go Go.ChangeShapes Go.Deep
set_option linter.unusedSimpArgs false
set_option linter.unusedVariables false

/-- Cells are those of a value of a type. -/
def Good (P : Program) (h : Heap) : Nat → TypeId → List Value → Prop
  | 0, _, _ => False
  | d + 1, t, cs =>
    (∀ k, P.underlying t = some (.int k) → ∃ n, cs = [.int k n] ∧ (Lit.int k n).wf = true) ∧
    (P.underlying t = some .bool → ∃ b, cs = [.bool b]) ∧
    (P.underlying t = some .string → ∃ s, cs = [.string s] ∧ s.size ≤ maxLen) ∧
    (∀ fs, P.underlying t = some (.struct fs) → cs.length = P.cellsOf t ∧ ∀ (j : Nat) f, fs[j]? = some f → Good P h d f.type ((cs.drop f.offset).take (P.cellsOf f.type))) ∧
    (∀ n e, P.underlying t = some (.array n e) → cs.length = P.cellsOf t ∧ ∀ i, i < n → Good P h d e ((cs.drop (i * P.cellsOf e)).take (P.cellsOf e))) ∧
    (∀ e, P.underlying t = some (.slice e) → cs = [.slice none 0 0] ∨ ∃ (a : Addr) (len cap : Nat), cs = [.slice (some a) len cap] ∧ len ≤ cap ∧ cap ≤ maxLen ∧
      ∀ i, i < len → ∃ cs', (0 < P.cellsOf e → a.spot = none ∧ rdN h a.block (a.off + i * P.cellsOf e) (P.cellsOf e) = some cs') ∧ Good P h d e cs')

theorem rdN_of_cells {w : World} {b off n : Nat} {cs : List Value} (h0 : 0 < n) (hl : cs.length = n) (hc : ∀ i, i < n → w.cell? ⟨b, off + i, none⟩ = cs[i]?) : rdN w.heap b off n = some cs := by
  have hsome : ∀ i, i < n → ∃ v, w.cell? ⟨b, off + i, none⟩ = some v := fun i hi => ⟨cs[i]'(by omega), by rw [hc i hi, List.getElem?_eq_getElem (by omega)]⟩
  obtain ⟨c, e, f, hb⟩ : ∃ c e f, w.heap[b]? = some (.cells c e f) := by
    obtain ⟨v, hv⟩ := hsome 0 h0
    unfold World.cell? at hv
    split at hv
    · rename_i c e f hb; exact ⟨c, e, f, hb⟩
    · cases hv
  have hget : ∀ i, i < n → c.toList[off + i]? = cs[i]? := fun i hi => by
    rw [← hc i hi]
    simp [World.cell?, hb]
  have hle : off + n ≤ c.toList.length := by
    obtain ⟨v, hv⟩ := hsome (n - 1) (by omega)
    have := hget (n - 1) (by omega)
    rw [← hc _ (by omega), hv] at this
    have := (List.getElem?_eq_some_iff.1 this).1
    omega
  have hblk : blk w.heap b = some (c.toList, e, f) := by simp [blk, hb]
  rw [rdN_blk hblk hle]
  congr 1
  apply List.ext_getElem?
  intro i
  rw [List.getElem?_take, List.getElem?_drop]
  by_cases hi : i < n
  · rw [if_pos hi, hget i hi]
  · rw [if_neg hi, List.getElem?_eq_none (by omega)]

section
variable {H : Type} {enc : TypeId × Value → H} {P : Program} {w : World} {spare : Nat → Bool} {held : Bool}

theorem good_of : ∀ (fuel : Nat) {t : TypeId} {cs : List Value} {x : DataW H × List MemPlace}, DataW.trod enc P w 0 spare held fuel t cs = some x → Good P w.heap fuel t cs
  | 0, t, cs, x, h => by simp [DataW.trod] at h
  | d + 1, t, cs, x, h => by
    refine ⟨fun k hu => ?_, fun hu => ?_, fun hu => ?_, fun fs hu => ?_, fun n e hu => ?_, fun e hu => ?_⟩
    · unfold DataW.trod at h
      rw [hu] at h
      split at h <;> first | (rename_i heq; cases heq; done) | (rename_i heq _; cases heq; done) | skip
      all_goals first | (cases h; done) | skip
      · rename_i k k' n heq
        cases heq
        split at h
        · rename_i hk; obtain ⟨rfl, hw⟩ := hk; exact ⟨n, rfl, hw⟩
        · cases h
    · unfold DataW.trod at h
      rw [hu] at h
      split at h <;> first | (rename_i heq; cases heq; done) | (rename_i heq _; cases heq; done) | skip
      all_goals first | (cases h; done) | skip
      · exact ⟨_, rfl⟩
    · unfold DataW.trod at h
      rw [hu] at h
      split at h <;> first | (rename_i heq; cases heq; done) | (rename_i heq _; cases heq; done) | skip
      all_goals first | (cases h; done) | skip
      · rename_i s heq
        split at h
        · rename_i hs; exact ⟨s, rfl, hs⟩
        · cases h
    · obtain ⟨xs, n, hn, _, hl, hlen, hf⟩ := DataW.trod_struct hu h
      cases hn
      refine ⟨hl, fun j f hj => ?_⟩
      have hjl : j < xs.length := by rw [hlen]; exact (Array.getElem?_eq_some_iff.1 hj).1
      have := hf j f hj
      rw [List.getElem?_eq_getElem hjl] at this
      exact good_of d this
    · obtain ⟨xs, m, hm, _, hl, hlen, hf⟩ := DataW.trod_array hu h
      cases hm
      refine ⟨hl, fun i hi => ?_⟩
      have := hf i hi
      rw [List.getElem?_eq_getElem (by omega)] at this
      exact good_of d this
    · rcases DataW.trod_slice hu h with ⟨h0, _⟩ | ⟨a, len, cap, elems, rest, n, hn, hcs, _, _, hl, hm, hlen, hel, _⟩
      · exact .inl h0
      · cases hn
        refine .inr ⟨a, len, cap, hcs, hl, hm, fun i hi => ?_⟩
        obtain ⟨cs', hc, ht⟩ := by
          have := hel i hi
          rw [List.getElem?_eq_getElem (by omega)] at this
          exact Option.bind_eq_some_iff.1 this
        refine ⟨cs', fun h0 => ?_, good_of d ht⟩
        obtain ⟨_, hcl, hat⟩ := World.cells?_some hc
        have hspot : a.spot = none := by
          obtain ⟨cs0, hc0, _⟩ := by
            have := hel 0 (by omega)
            rw [List.getElem?_eq_getElem (by omega)] at this
            exact Option.bind_eq_some_iff.1 this
          obtain ⟨_, hcl0, hat0⟩ := World.cells?_some hc0
          have h1 := hat0 0 h0
          rw [List.getElem?_eq_getElem (by omega)] at h1
          have h2 : (a.add (0 * P.cellsOf e)).add 0 = a := by simp [Addr.add]
          rw [h2] at h1
          cases hs : a.spot with
          | none => rfl
          | some s =>
            exfalso
            unfold World.cell? at h1
            rw [hs] at h1
            split at h1 <;> simp at h1
        refine ⟨hspot, ?_⟩
        obtain ⟨ab, ao, asp⟩ := a
        cases hspot
        refine rdN_of_cells h0 hcl fun i' hi' => ?_
        rw [← hat i' hi']
        simp only [add_none]
end
end Go.Proofs.Ytblalmgahfbalaa.MX

/- The engine, part P: an argument's cells, leaf by leaf. -/
namespace Go.Proofs.Ytblalmgahfbalaa.MX
open Go Go.ChangeShapes Go.Deep
set_option linter.unusedSimpArgs false
set_option linter.unusedVariables false

/-- A leaf of a type. -/
inductive LK where
  | int (k : IntKind) | bool | str | slice (e : TypeId)
  deriving DecidableEq
def fieldsL (lv : TypeId → Option (List LK)) (P : Program) : List Field → Nat → Option (List LK)
  | [], _ => some []
  | f :: fs, off => if f.offset = off then (lv f.type).bind fun l => if l.length = P.cellsOf f.type then (fieldsL lv P fs (off + l.length)).map (l ++ ·) else none else none
def leaves (P : Program) : Nat → TypeId → Option (List LK)
  | 0, _ => none
  | n + 1, t => match P.underlying t with
    | some (.int k) => some [.int k]
    | some .bool => some [.bool]
    | some .string => some [.str]
    | some (.slice e) => some [.slice e]
    | some (.struct fs) => (fieldsL (leaves P n) P fs.toList 0).bind fun l => if l.length = P.cellsOf t then some l else none
    | some (.array m e) => (leaves P n e).bind fun l => if l.length = P.cellsOf e ∧ P.cellsOf t = m * P.cellsOf e then some (List.replicate m l).flatten else none
    | _ => none

/-- A slice's elements are good. -/
def GoodS (P : Program) (h : Heap) (e : TypeId) (v : Value) : Prop :=
  v = .slice none 0 0 ∨ ∃ (a : Addr) (len cap d : Nat), v = .slice (some a) len cap ∧ len ≤ cap ∧ cap ≤ maxLen ∧
    ∀ i, i < len → ∃ cs', (0 < P.cellsOf e → a.spot = none ∧ rdN h a.block (a.off + i * P.cellsOf e) (P.cellsOf e) = some cs') ∧ Good P h d e cs'
def LeavesOf (P : Program) (h : Heap) : List LK → List Value → Prop
  | [], cs => cs = []
  | .int k :: ls, cs => ∃ n cs', cs = .int k n :: cs' ∧ (Lit.int k n).wf = true ∧ LeavesOf P h ls cs'
  | .bool :: ls, cs => ∃ b cs', cs = .bool b :: cs' ∧ LeavesOf P h ls cs'
  | .str :: ls, cs => ∃ s cs', cs = .string s :: cs' ∧ s.size ≤ maxLen ∧ LeavesOf P h ls cs'
  | .slice e :: ls, cs => ∃ v cs', cs = v :: cs' ∧ GoodS P h e v ∧ LeavesOf P h ls cs'

variable {P : Program} {h : Heap}
theorem LeavesOf.append {l2 : List LK} {c2 : List Value} (h2 : LeavesOf P h l2 c2) : ∀ {l1 : List LK} {c1 : List Value}, LeavesOf P h l1 c1 → LeavesOf P h (l1 ++ l2) (c1 ++ c2)
  | [], c1, h1 => by cases h1; exact h2
  | .int k :: ls, c1, h1 => by obtain ⟨n, cs, rfl, w, hh⟩ := h1; exact ⟨n, cs ++ c2, rfl, w, LeavesOf.append h2 hh⟩
  | .bool :: ls, c1, h1 => by obtain ⟨n, cs, rfl, hh⟩ := h1; exact ⟨n, cs ++ c2, rfl, LeavesOf.append h2 hh⟩
  | .str :: ls, c1, h1 => by obtain ⟨n, cs, rfl, w, hh⟩ := h1; exact ⟨n, cs ++ c2, rfl, w, LeavesOf.append h2 hh⟩
  | .slice e :: ls, c1, h1 => by obtain ⟨n, cs, rfl, w, hh⟩ := h1; exact ⟨n, cs ++ c2, rfl, w, LeavesOf.append h2 hh⟩

theorem fields_of {lv : TypeId → Option (List LK)} {Q : TypeId → List Value → Prop} {cs : List Value} (hlv : ∀ t c l, Q t c → lv t = some l → LeavesOf P h l c) :
    ∀ {fs : List Field} {off : Nat} {ls : List LK}, fieldsL lv P fs off = some ls → off + ls.length = cs.length →
    (∀ (j : Nat) f, fs[j]? = some f → Q f.type ((cs.drop f.offset).take (P.cellsOf f.type))) → LeavesOf P h ls (cs.drop off)
  | [], off, ls, hl, hn, hq => by
    cases hl
    simp at hn
    subst hn
    simp [LeavesOf]
  | f :: fs, off, ls, hl, hn, hq => by
    unfold fieldsL at hl
    split at hl
    · rename_i ho
      obtain ⟨l, h1, h2⟩ := Option.bind_eq_some_iff.1 hl
      split at h2
      · rename_i hc
        obtain ⟨l2, h3, rfl⟩ := Option.map_eq_some_iff.1 h2
        have q0 := hlv _ _ _ (hq 0 f rfl) h1
        rw [ho, ← hc] at q0
        have q1 := fields_of hlv h3 (by simp at hn; omega) (fun j f' hj => hq (j + 1) f' (by simpa using hj))
        have := LeavesOf.append q1 q0
        rwa [show (cs.drop off).take l.length ++ cs.drop (off + l.length) = cs.drop off by rw [← List.drop_drop, List.take_append_drop]] at this
      · cases h2
    · cases hl

theorem reps_of {l : List LK} {cs : List Value} : ∀ {m k : Nat}, (k + m) * l.length = cs.length → (∀ i, i < k + m → LeavesOf P h l ((cs.drop (i * l.length)).take l.length)) → LeavesOf P h (List.replicate m l).flatten (cs.drop (k * l.length))
  | 0, k, hn, hq => by simp at hn; simp [LeavesOf, hn]
  | m + 1, k, hn, hq => by
    have q0 := hq k (by omega)
    have q1 := reps_of (l := l) (cs := cs) (m := m) (k := k + 1) (by rw [← hn]; congr 1; omega) (fun i hi => hq i (by omega))
    have := LeavesOf.append q1 q0
    rw [List.replicate_succ, List.flatten_cons]
    rwa [show (cs.drop (k * l.length)).take l.length ++ cs.drop ((k + 1) * l.length) = cs.drop (k * l.length) by rw [Nat.succ_mul, ← List.drop_drop, List.take_append_drop]] at this

theorem LeavesOf.len : ∀ {ls : List LK} {cs : List Value}, LeavesOf P h ls cs → cs.length = ls.length
  | [], _, hh => by cases hh; rfl
  | .int k :: ls, c1, h1 => by obtain ⟨n, cs, rfl, w, hh⟩ := h1; simp [hh.len]
  | .bool :: ls, c1, h1 => by obtain ⟨n, cs, rfl, hh⟩ := h1; simp [hh.len]
  | .str :: ls, c1, h1 => by obtain ⟨n, cs, rfl, w, hh⟩ := h1; simp [hh.len]
  | .slice e :: ls, c1, h1 => by obtain ⟨n, cs, rfl, w, hh⟩ := h1; simp [hh.len]

theorem leaves_of : ∀ (n : Nat) {d : Nat} {t : TypeId} {cs : List Value} {ls : List LK}, Good P h d t cs → leaves P n t = some ls → LeavesOf P h ls cs
  | 0, _, _, _, _, _, hl => by cases hl
  | n + 1, 0, _, _, _, hg, _ => hg.elim
  | n + 1, d + 1, t, cs, ls, hg, hl => by
    obtain ⟨gi, gb, gs, gf, ga, gl⟩ := hg
    unfold leaves at hl
    split at hl
    · rename_i k hu; cases hl; obtain ⟨m, rfl, w⟩ := gi k hu; exact ⟨m, [], rfl, w, rfl⟩
    · rename_i hu; cases hl; obtain ⟨b, rfl⟩ := gb hu; exact ⟨b, [], rfl, rfl⟩
    · rename_i hu; cases hl; obtain ⟨s, rfl, w⟩ := gs hu; exact ⟨s, [], rfl, w, rfl⟩
    · rename_i e hu
      cases hl
      rcases gl e hu with rfl | ⟨a, len, cap, rfl, h1, h2, h3⟩
      · exact ⟨_, [], rfl, .inl rfl, rfl⟩
      · exact ⟨_, [], rfl, .inr ⟨a, len, cap, d, rfl, h1, h2, h3⟩, rfl⟩
    · rename_i fs hu
      obtain ⟨l, h1, h2⟩ := Option.bind_eq_some_iff.1 hl
      split at h2
      · rename_i hc
        cases h2
        obtain ⟨hlen, hq⟩ := gf fs hu
        have := fields_of (P := P) (h := h) (Q := Good P h d) (cs := cs) (fun t c l hg' hl' => leaves_of n hg' hl') h1 (by omega) (fun j f hj => hq j f (by simpa using hj))
        simpa using this
      · cases h2
    · rename_i m e hu
      obtain ⟨l, h1, h2⟩ := Option.bind_eq_some_iff.1 hl
      split at h2
      · rename_i hc
        cases h2
        obtain ⟨hlen, hq⟩ := ga m e hu
        have := reps_of (P := P) (h := h) (l := l) (cs := cs) (m := m) (k := 0) (by rw [hlen, hc.2, hc.1]; simp) (fun i hi => by have := leaves_of n (hq i (by omega)) h1; rwa [hc.1])
        simpa using this
      · cases h2
    · cases hl

/-- A slice out of its elements' good cells. -/
theorem GoodS.arr {α : Type} {enc : α → List Value} {ok : α → Prop} {e sz : Nat} (hsz : P.cellsOf e = sz) (h0 : 0 < sz) {v : Value} (hg : GoodS P h e v)
    (hel : ∀ {d : Nat} {cs : List Value}, Good P h d e cs → ∃ x, cs = enc x ∧ ok x) :
    ∃ (A : Option Addr) (c : Nat) (xs : List α), v = .slice A xs.length c ∧ Arr enc sz h A xs ∧ xs.length ≤ c ∧ c ≤ maxLen ∧ ∀ x ∈ xs, ok x := by
  subst hsz
  rcases hg with rfl | ⟨a, len, cap, d, rfl, h1, h2, h3⟩
  · exact ⟨none, 0, [], rfl, Arr.nil _ _ _ _, Nat.le_refl _, by decide, by simp⟩
  · have hx : ∀ i, i < len → ∃ x, (a.spot = none ∧ rdN h a.block (a.off + i * P.cellsOf e) (P.cellsOf e) = some (enc x)) ∧ ok x := fun i hi => by
      obtain ⟨cs, hr, hgd⟩ := h3 i hi
      obtain ⟨x, rfl, hok⟩ := hel hgd
      exact ⟨x, hr h0, hok⟩
    have : ∀ m, m ≤ len → ∃ xs : List α, xs.length = m ∧ ∀ i (hi : i < xs.length), (a.spot = none ∧ rdN h a.block (a.off + i * P.cellsOf e) (P.cellsOf e) = some (enc xs[i])) ∧ ok xs[i] := by
      intro m
      induction m with
      | zero => exact fun _ => ⟨[], rfl, fun i hi => absurd hi (by simp)⟩
      | succ m ih =>
        intro hm
        obtain ⟨xs, hl, hh⟩ := ih (by omega)
        obtain ⟨x, hxx⟩ := hx m (by omega)
        refine ⟨xs ++ [x], by simp [hl], fun i hi => ?_⟩
        by_cases hi' : i < xs.length
        · rw [List.getElem_append_left hi']; exact hh i hi'
        · have : i = m := by simp at hi; omega
          subst this
          rw [List.getElem_append_right (by omega)]
          simpa using hxx
    obtain ⟨xs, rfl, hh⟩ := this len (Nat.le_refl _)
    refine ⟨some a, cap, xs, rfl, fun i hi => ?_, h1, h2, fun x hx => ?_⟩
    · obtain ⟨⟨hs, hr⟩, _⟩ := hh i hi
      obtain ⟨ab, ao, asp⟩ := a
      cases hs
      exact ⟨ab, ao, rfl, hr⟩
    · obtain ⟨i, hi, rfl⟩ := List.getElem_of_mem hx
      exact (hh i hi).2
end Go.Proofs.Ytblalmgahfbalaa.MX

/- The table's laws: awake, TableOf. -/
namespace Go.Proofs.Ytblalmgahfbalaa.MX
open Go Go.Proofs
set_option linter.unusedSimpArgs false
set_option linter.unusedVariables false

def Pol.ok (p : Pol) : Prop := I64 p.w ∧ I64 p.f0 ∧ I64 p.f1 ∧ I64 p.f2 ∧ I64 p.f3 ∧ I64 p.s0 ∧ I64 p.t0 ∧ I64 p.s1 ∧ I64 p.t1 ∧ I64 p.s2 ∧ I64 p.t2 ∧ I64 p.s3 ∧ I64 p.t3
theorem pol_of {h : Heap} {d : Nat} {cs : List Value} (hg : Good Try.prog h d 78 cs) : ∃ x : Pol, cs = x.enc ∧ x.ok := by
  have hl : leaves Try.prog 4 78 = some [.int .i64, .bool, .bool, .bool, .int .i64, .int .i64, .int .i64, .int .i64, .int .i64, .int .i64, .int .i64, .int .i64, .int .i64, .int .i64, .int .i64, .int .i64] := by kernel_rfl
  obtain ⟨a0, _, rfl, w0, b1, _, rfl, b2, _, rfl, b3, _, rfl, a4, _, rfl, w4, a5, _, rfl, w5, a6, _, rfl, w6, a7, _, rfl, w7, a8, _, rfl, w8, a9, _, rfl, w9, a10, _, rfl, w10, a11, _, rfl, w11, a12, _, rfl, w12, a13, _, rfl, w13, a14, _, rfl, w14, a15, _, rfl, w15, rfl⟩ := leaves_of 4 hg hl
  exact ⟨⟨a0, b1, b2, b3, a4, a5, a6, a7, a8, a9, a10, a11, a12, a13, a14, a15⟩, rfl, wf_i64 w0, wf_i64 w4, wf_i64 w5, wf_i64 w6, wf_i64 w7, wf_i64 w8, wf_i64 w9, wf_i64 w10, wf_i64 w11, wf_i64 w12, wf_i64 w13, wf_i64 w14, wf_i64 w15⟩

end Go.Proofs.Ytblalmgahfbalaa.MX

/- The reference's numbers as bytes; lists of bytes compared. -/
namespace Go.Proofs.Ytblalmgahfbalaa.MX
open Go Go.Proofs
set_option linter.unusedSimpArgs false
set_option linter.unusedVariables false

end Go.Proofs.Ytblalmgahfbalaa.MX
