/- Texts in one file: Od15. -/
import Derived.Test.YtblalmgahfbalaaK24
import Derived.Test.YtblalmgahfbalaaK26

/- Orders: a config's bytes. -/
namespace Go.Proofs.Ytblalmgahfbalaa.MX
open Go Go.Proofs
set_option linter.unusedSimpArgs false
set_option linter.unusedVariables false
set_option maxHeartbeats 8000000
section
variable {h0 h : Heap} {l : List HP}
theorem oI64_ok (v : Int) {o : Nat} {bs : List UInt8} (S : St h0 h (outA o bs false :: l)) (hv : 0 ≤ v ∧ v < 9223372036854775808) (hl : bs.length < 1000000) :
    CallsH Try.prog 47 [.pointer (some ⟨o, 0, none⟩), .int .i64 v] h fun r h' => St h0 h' (outA o (bs ++ le 8 v) false :: l) := by
  obtain ⟨s, S1⟩ := outA_open.1 S
  have hw : IntKind.u64.wrap v = v := wrap_u64 (by omega) (by omega)
  have F := S1.all
  simp only [all_cons, all_nil, says_cell, and_true] at F
  (refine enterK c_codec_Out_I64 (Nat.le_of_ble_eq_true rfl) fun K hK => ?_; (try simp (maxSteps := 1000000) (disch := first | omega | assumption | exact Nat.le_of_ble_eq_true rfl) only [go_sem, ↓mwp_block, simprocAttr, ir_codec_Out_I64]))
  (try simp (maxSteps := 1000000) (disch := first | omega | assumption | exact Nat.le_of_ble_eq_true rfl) only [go_sem, ↓mwp_block, simprocAttr, F, hw])
  refine call_intro (number_ok v 8 S ⟨by omega, by omega⟩ (by omega) hl) fun r h S => ?_
  (try simp (maxSteps := 1000000) (disch := first | omega | assumption | exact Nat.le_of_ble_eq_true rfl) only [go_sem, ↓mwp_block, simprocAttr])
  exact hK _ _ S
theorem oBytes_ok {o : Nat} {bs : List UInt8} {A : Option Addr} {c : Nat} {ys : List UInt8} (S : St h0 h (outA o bs false :: l)) (ha : ∀ h', St h0 h' l → Arr bEnc 1 h' A ys) (hl : bs.length + ys.length < 900000) (hy : ys.length < 65536) :
    CallsH Try.prog 44 [.pointer (some ⟨o, 0, none⟩), .slice A ys.length c] h fun r h' => St h0 h' (outA o (bs ++ (le 2 ys.length ++ ys)) false :: l) := by
  (refine enterK c_codec_Out_Bytes (Nat.le_of_ble_eq_true rfl) fun K hK => ?_; (try simp (maxSteps := 1000000) (disch := first | omega | assumption | exact Nat.le_of_ble_eq_true rfl) only [go_sem, ↓mwp_block, simprocAttr, ir_codec_Out_Bytes]))
  refine call_intro (U16_ok _ S ⟨by omega, by omega⟩ (by omega)) fun r h S => ?_
  rw [(fit2 (by omega) (by omega)).1, (fit2 (bs := []) (by omega) (by omega)).2] at S
  (try simp (maxSteps := 1000000) (disch := first | omega | assumption | exact Nat.le_of_ble_eq_true rfl) only [go_sem, ↓mwp_block, simprocAttr])
  refine call_intro (Plain_ok ys S (ha _ S.tl) (by simp only [List.length_append, le_length]; omega)) fun r h S => ?_
  (try simp (maxSteps := 1000000) (disch := first | omega | assumption | exact Nat.le_of_ble_eq_true rfl) only [go_sem, ↓mwp_block, simprocAttr])
  exact hK _ _ (by simpa using S)
theorem oU8_ok (v : Int) {o : Nat} {bs : List UInt8} (S : St h0 h (outA o bs false :: l)) (hv : 0 ≤ v ∧ v < 256) (hl : bs.length < 1000000) :
    CallsH Try.prog 45 [.pointer (some ⟨o, 0, none⟩), .int .i64 v] h fun r h' => St h0 h' (outA o (bs ++ le 1 v) false :: l) := by
  refine (U8_ok v S ⟨by omega, by omega⟩ hl).mono fun r h' S => ?_
  rwa [(fit1 hv.1 hv.2).1, (fit1 (bs := []) hv.1 hv.2).2] at S
theorem oU16_ok (v : Int) {o : Nat} {bs : List UInt8} (S : St h0 h (outA o bs false :: l)) (hv : 0 ≤ v ∧ v < 65536) (hl : bs.length < 1000000) :
    CallsH Try.prog 48 [.pointer (some ⟨o, 0, none⟩), .int .i64 v] h fun r h' => St h0 h' (outA o (bs ++ le 2 v) false :: l) := by
  refine (U16_ok v S ⟨by omega, by omega⟩ hl).mono fun r h' S => ?_
  rwa [(fit2 hv.1 hv.2).1, (fit2 (bs := []) hv.1 hv.2).2] at S
theorem oU32_ok (v : Int) {o : Nat} {bs : List UInt8} (S : St h0 h (outA o bs false :: l)) (hv : 0 ≤ v ∧ v < 4294967296) (hl : bs.length < 1000000) :
    CallsH Try.prog 46 [.pointer (some ⟨o, 0, none⟩), .int .i64 v] h fun r h' => St h0 h' (outA o (bs ++ le 4 v) false :: l) := by
  refine (U32_ok v S ⟨by omega, by omega⟩ hl).mono fun r h' S => ?_
  rwa [(fit4 hv.1 hv.2).1, (fit4 (bs := []) hv.1 hv.2).2] at S
end
def linB (l : Lin) : List UInt8 := le 2 l.sku ++ (le 1 l.cat ++ (le 8 l.price ++ le 1 l.count))
def odrB (o : Odr) : List UInt8 := le 4 o.day ++ (le 8 o.disc ++ (le 8 o.tax ++ (le 8 o.ship ++ (le 1 o.ls.length ++ o.ls.flatMap linB))))
def supB (s : Sup) : List UInt8 := le 2 s.sku ++ (le 8 s.price ++ le 1 s.count)
def encC (C : Cfg) : List UInt8 := (le 2 (encT C.ps).length ++ encT C.ps) ++ (le 1 C.os.length ++ (C.os.flatMap odrB ++ (le 1 C.ss.length ++ C.ss.flatMap supB)))
theorem flat_len {α : Type} {f : α → List UInt8} {n : Nat} : ∀ {l : List α}, (∀ x ∈ l, (f x).length ≤ n) → (l.flatMap f).length ≤ n * l.length
  | [], _ => by simp
  | x :: l, h => by
    have h1 := h x (by simp)
    have h2 := flat_len (l := l) fun y hy => h y (by simp [hy])
    rw [List.flatMap_cons, List.length_append, List.length_cons, Nat.mul_succ]
    omega
theorem linB_len (l : Lin) : (linB l).length = 12 := by simp [linB, le_length]
theorem supB_len (l : Sup) : (supB l).length = 11 := by simp [supB, le_length]
theorem odrB_len {o : Odr} (h : o.ls.length ≤ 8) : (odrB o).length ≤ 125 := by
  have := flat_len (f := linB) (n := 12) (l := o.ls) fun x _ => by rw [linB_len]; exact Nat.le_refl _
  simp only [odrB, List.length_append, le_length]
  omega
theorem flat_snoc' {α : Type} {f : α → List UInt8} {l : List α} {i : Nat} (hi : i < l.length) : (l.take (i + 1)).flatMap f = (l.take i).flatMap f ++ f l[i] := by
  rw [List.take_succ_eq_append_getElem hi, List.flatMap_append]
  simp
section
variable {h0 h : Heap} {l : List HP}
theorem OEncode_ok (C : Cfg) (r : ∀ h', St h0 h' l → C.rd h') (w : C.wf) (l1 : C.os.length < 1000000) (l2 : C.ss.length < 1000000) (l3 : C.ps.length < 1000000) (l4 : ∀ o ∈ C.os, o.ls.length < 1000000) (S : St h0 h l) :
    CallsH Try.prog 19 [.agg C.enc.toArray] h fun v h' => (¬ okCfg C ∧ v = .tuple #[.slice none 0 0, .int .i64 1] ∧ St h0 h' l) ∨ (okCfg C ∧ ∃ s, v = .tuple #[s, .int .i64 0] ∧ St h0 h' (ownA bEnc 1 5 s (encC C) :: l)) := by
  (refine enterK c_order_Encode (Nat.le_of_ble_eq_true rfl) fun K hK => ?_; (try simp (maxSteps := 1000000) (disch := first | omega | assumption | exact Nat.le_of_ble_eq_true rfl) only [go_sem, ↓mwp_block, simprocAttr, ir_order_Encode]))
  (refine st_alloc S ?_; clear S; intro g h S; (try simp only [splice_cons, splice_nil, List.set_cons_zero, List.set_cons_succ, Nat.zero_add, Nat.reduceAdd, List.cons_append, List.nil_append] at S); ((try clear F); have F := S.all; (try simp only [all_cons, all_nil, says_cell, and_true] at F)))
  (try simp (maxSteps := 1000000) (disch := first | omega | assumption | exact Nat.le_of_ble_eq_true rfl) only [go_sem, ↓mwp_block, simprocAttr, F])
  refine call_intro (ORight_ok C (r h S.tl) w l1 l2 l3 l4) ?_
  rintro _ h ⟨rfl, hf⟩
  have S := S.frame hf
  by_cases hok : okCfg C
  case neg =>
    rw [dcd_false hok]
    (try simp (maxSteps := 1000000) (disch := first | omega | assumption | exact Nat.le_of_ble_eq_true rfl) only [go_sem, ↓mwp_block, simprocAttr])
    exact hK _ _ (.inl ⟨hok, rfl, S.tl⟩)
  rw [dcd_true hok]
  obtain ⟨k0, k1, k2, k3, k4, k5⟩ := id hok
  have hp16 := k0.1
  have hTl := encT_len C.ps
  ((try clear F); have F := S.all; (try simp only [all_cons, all_nil, says_cell, and_true] at F))
  (try simp (maxSteps := 1000000) (disch := first | omega | assumption | exact Nat.le_of_ble_eq_true rfl) only [go_sem, ↓mwp_block, simprocAttr, F, Cfg.enc])
  refine call_intro (Encode_ok S (fun h' S => (r h' S.tl).ps) (by omega)) ?_
  clear S F
  rintro _ h ⟨s, e, rfl, ⟨_, rfl, S⟩ | ⟨hn, _⟩⟩
  case inr => exact (hn k0).elim
  obtain ⟨At, ct, rfl⟩ := S.sl
  (try simp (maxSteps := 1000000) (disch := first | omega | assumption | exact Nat.le_of_ble_eq_true rfl) only [go_sem, ↓mwp_block, simprocAttr])
  (refine st_alloc S ?_; clear S; intro o h S; (try simp only [splice_cons, splice_nil, List.set_cons_zero, List.set_cons_succ, Nat.zero_add, Nat.reduceAdd, List.cons_append, List.nil_append] at S); ((try clear F); have F := S.all; (try simp only [all_cons, all_nil, says_cell, and_true] at F)))
  have S := out_new S
  clear F
  (try simp (maxSteps := 1000000) (disch := first | omega | assumption | exact Nat.le_of_ble_eq_true rfl) only [go_sem, ↓mwp_block, simprocAttr])
  refine call_intro (oBytes_ok S (fun h' S => S.arr bEnc_len) (by simp only [List.length_nil]; omega) (by omega)) fun _ h S => ?_
  rw [List.nil_append] at S
  generalize hB0 : le 2 (encT C.ps).length ++ encT C.ps = B0 at S
  have hB0l : B0.length ≤ 400 := by rw [← hB0, List.length_append, le_length]; omega
  ((try clear F); have F := S.all; (try simp only [all_cons, all_nil, says_cell, and_true] at F))
  (try simp (maxSteps := 1000000) (disch := first | omega | assumption | exact Nat.le_of_ble_eq_true rfl) only [go_sem, ↓mwp_block, simprocAttr, F, Cfg.enc])
  refine call_intro (oU8_ok _ S ⟨by omega, by omega⟩ (by omega)) fun _ h S => ?_
  ((try clear F); have F := S.all; (try simp only [all_cons, all_nil, says_cell, and_true] at F))
  (try simp (maxSteps := 1000000) (disch := first | omega | assumption | exact Nat.le_of_ble_eq_true rfl) only [go_sem, ↓mwp_block, simprocAttr, F, Cfg.enc])
  refine loop_intro (fun ρ h' => ρ 1 = .pointer (some ⟨g, 0, none⟩) ∧ ρ 6 = .pointer (some ⟨o, 0, none⟩) ∧ ρ 29 = .slice C.A1 C.os.length C.c1 ∧ ρ 30 = .int .i64 C.os.length ∧ ∃ i : Nat, ρ 31 = .int .i64 i ∧ i ≤ C.os.length ∧
    St h0 h' (outA o (B0 ++ le 1 C.os.length ++ (C.os.take i).flatMap odrB) false :: cellA g C.enc 26 :: l)) (fun ρ _ => C.os.length - (iv (ρ 31)).toNat) ?_ ?_
  · (try simp (maxSteps := 1000000) (disch := first | omega | assumption | exact Nat.le_of_ble_eq_true rfl) only [go_sem, ↓mwp_block, simprocAttr])
    exact ⟨0, rfl, by omega, by simp only [List.take_zero, List.flatMap_nil, List.append_nil]; exact S.d1⟩
  clear S F
  rintro ρ h J hJ ⟨e1, e6, e29, e30, i, e31, hi, S⟩
  (try simp (maxSteps := 1000000) (disch := first | omega | assumption | exact Nat.le_of_ble_eq_true rfl) only [go_sem, ↓mwp_block, simprocAttr, e30, e31])
  refine cond_dec (fun hlt => ?_) (fun hlt => ?_)
  · have hil : i < C.os.length := by omega
    obtain ⟨b, off, hA, hr1⟩ := (r _ S.tl.tl).os.at hil
    have hmem := List.getElem_mem hil
    have hrl := fun {h'} (S : St h0 h' l) => (r _ S).ls _ hmem
    have hs1 := flat_snoc' (f := odrB) hil
    have hox := k3 _ hmem
    have hfl := flat_len (f := odrB) (n := 125) (l := C.os.take i) fun x hx => odrB_len (k3 x (List.mem_of_mem_take hx)).1.2.1.2
    have hlt20 : (C.os.take i).length ≤ 20 := by rw [List.length_take]; omega
    generalize C.os[i] = x at *
    obtain ⟨⟨⟨d0, d1⟩, ⟨n0, n1⟩, ⟨p0, p1⟩, ⟨p2, p3⟩, ⟨p4, p5⟩⟩, hlk, _⟩ := hox
    generalize hB1 : B0 ++ le 1 C.os.length ++ (C.os.take i).flatMap odrB = B1 at S
    have hB1l : B1.length ≤ 2901 := by rw [← hB1, List.length_append, List.length_append, le_length]; omega
    (try simp (maxSteps := 1000000) (disch := first | omega | assumption | exact Nat.le_of_ble_eq_true rfl) only [go_sem, ↓mwp_block, simprocAttr, e29, e31, hA, hr1])
    (refine st_alloc S ?_; clear S; intro q h S; (try simp only [splice_cons, splice_nil, List.set_cons_zero, List.set_cons_succ, Nat.zero_add, Nat.reduceAdd, List.cons_append, List.nil_append] at S); ((try clear F); have F := S.all; (try simp only [all_cons, all_nil, says_cell, and_true] at F)))
    (try simp (maxSteps := 1000000) (disch := first | omega | assumption | exact Nat.le_of_ble_eq_true rfl) only [go_sem, ↓mwp_block, simprocAttr, F, Odr.enc])
    (refine st_store (by first | exact S | exact S.p1 | exact S.p2 | exact S.p3 | exact S.p4 | exact S.p5 | exact S.p6 | exact S.p7 | exact S.p8 | exact S.p9 | exact S.p10 | exact S.p11) (by rfl) (by rfl) (Nat.le_of_ble_eq_true rfl) ?_; clear S; intro h S; (try simp only [splice_cons, splice_nil, List.set_cons_zero, List.set_cons_succ, Nat.zero_add, Nat.reduceAdd, List.cons_append, List.nil_append] at S); ((try clear F); have F := S.all; (try simp only [all_cons, all_nil, says_cell, and_true] at F)))
    (try simp (maxSteps := 1000000) (disch := first | omega | assumption | exact Nat.le_of_ble_eq_true rfl) only [go_sem, ↓mwp_block, simprocAttr, e6, F])
    refine call_intro (oU32_ok _ S.p1 ⟨by omega, by omega⟩ (by omega)) fun _ h S => ?_
    ((try clear F); have F := S.all; (try simp only [all_cons, all_nil, says_cell, and_true] at F))
    (try simp (maxSteps := 1000000) (disch := first | omega | assumption | exact Nat.le_of_ble_eq_true rfl) only [go_sem, ↓mwp_block, simprocAttr, e6, F])
    refine call_intro (oI64_ok _ S ⟨by omega, by omega⟩ (by simp only [List.length_append, le_length]; omega)) fun _ h S => ?_
    ((try clear F); have F := S.all; (try simp only [all_cons, all_nil, says_cell, and_true] at F))
    (try simp (maxSteps := 1000000) (disch := first | omega | assumption | exact Nat.le_of_ble_eq_true rfl) only [go_sem, ↓mwp_block, simprocAttr, e6, F])
    refine call_intro (oI64_ok _ S ⟨by omega, by omega⟩ (by simp only [List.length_append, le_length]; omega)) fun _ h S => ?_
    ((try clear F); have F := S.all; (try simp only [all_cons, all_nil, says_cell, and_true] at F))
    (try simp (maxSteps := 1000000) (disch := first | omega | assumption | exact Nat.le_of_ble_eq_true rfl) only [go_sem, ↓mwp_block, simprocAttr, e6, F])
    refine call_intro (oI64_ok _ S ⟨by omega, by omega⟩ (by simp only [List.length_append, le_length]; omega)) fun _ h S => ?_
    ((try clear F); have F := S.all; (try simp only [all_cons, all_nil, says_cell, and_true] at F))
    (try simp (maxSteps := 1000000) (disch := first | omega | assumption | exact Nat.le_of_ble_eq_true rfl) only [go_sem, ↓mwp_block, simprocAttr, e6, F])
    refine call_intro (oU8_ok _ S ⟨by omega, by omega⟩ (by simp only [List.length_append, le_length]; omega)) fun _ h S => ?_
    generalize hB2 : B1 ++ le 4 x.day ++ le 8 x.disc ++ le 8 x.tax ++ le 8 x.ship ++ le 1 x.ls.length = B2 at S
    have hB2l : B2.length ≤ 3000 := by rw [← hB2]; simp only [List.length_append, le_length]; omega
    ((try clear F); have F := S.all; (try simp only [all_cons, all_nil, says_cell, and_true] at F))
    (try simp (maxSteps := 1000000) (disch := first | omega | assumption | exact Nat.le_of_ble_eq_true rfl) only [go_sem, ↓mwp_block, simprocAttr, F])
    refine loop_intro (fun ρ' h' => ρ' 1 = ρ 1 ∧ ρ' 6 = ρ 6 ∧ ρ' 29 = ρ 29 ∧ ρ' 30 = ρ 30 ∧ ρ' 31 = ρ 31 ∧ ρ' 52 = .slice x.A x.ls.length x.c ∧ ρ' 53 = .int .i64 x.ls.length ∧ ∃ k : Nat, ρ' 54 = .int .i64 k ∧ k ≤ x.ls.length ∧
      St h0 h' (outA o (B2 ++ (x.ls.take k).flatMap linB) false :: cellA g C.enc 26 :: l)) (fun ρ' _ => x.ls.length - (iv (ρ' 54)).toNat) ?_ ?_
    · (try simp (maxSteps := 1000000) (disch := first | omega | assumption | exact Nat.le_of_ble_eq_true rfl) only [go_sem, ↓mwp_block, simprocAttr, e6, hA])
      exact ⟨0, rfl, by omega, by simp only [List.take_zero, List.flatMap_nil, List.append_nil]; exact S.d1⟩
    clear S F hr1
    rintro ρ' h J' hJ' ⟨q1, q6, q29, q30, q31, q52, q53, k, q54, hk, S⟩
    (try simp (maxSteps := 1000000) (disch := first | omega | assumption | exact Nat.le_of_ble_eq_true rfl) only [go_sem, ↓mwp_block, simprocAttr, q53, q54])
    refine cond_dec (fun hlt2 => ?_) (fun hlt2 => ?_)
    · have hkl : k < x.ls.length := by omega
      obtain ⟨b2, off2, hA2, hr2⟩ := (hrl S.tl.tl).at hkl
      have hs2 := flat_snoc' (f := linB) hkl
      have hx := hlk _ (List.getElem_mem hkl)
      have hfl2 := flat_len (f := linB) (n := 12) (l := x.ls.take k) fun x _ => by rw [linB_len]; exact Nat.le_refl _
      have hlt8 : (x.ls.take k).length ≤ 8 := by rw [List.length_take]; omega
      generalize x.ls[k] = y at *
      obtain ⟨⟨⟨s0, s1⟩, ⟨y0, y1⟩, c0, c1⟩, g0, g1⟩ := hx
      generalize hB3 : B2 ++ (x.ls.take k).flatMap linB = B3 at S
      have hB3l : B3.length ≤ 3100 := by rw [← hB3, List.length_append]; omega
      (try simp (maxSteps := 1000000) (disch := first | omega | assumption | exact Nat.le_of_ble_eq_true rfl) only [go_sem, ↓mwp_block, simprocAttr, q52, q54, hA2, hr2])
      (refine st_alloc S ?_; clear S; intro p h S; (try simp only [splice_cons, splice_nil, List.set_cons_zero, List.set_cons_succ, Nat.zero_add, Nat.reduceAdd, List.cons_append, List.nil_append] at S); ((try clear F); have F := S.all; (try simp only [all_cons, all_nil, says_cell, and_true] at F)))
      (try simp (maxSteps := 1000000) (disch := first | omega | assumption | exact Nat.le_of_ble_eq_true rfl) only [go_sem, ↓mwp_block, simprocAttr, F, Lin.enc])
      (refine st_store (by first | exact S | exact S.p1 | exact S.p2 | exact S.p3 | exact S.p4 | exact S.p5 | exact S.p6 | exact S.p7 | exact S.p8 | exact S.p9 | exact S.p10 | exact S.p11) (by rfl) (by rfl) (Nat.le_of_ble_eq_true rfl) ?_; clear S; intro h S; (try simp only [splice_cons, splice_nil, List.set_cons_zero, List.set_cons_succ, Nat.zero_add, Nat.reduceAdd, List.cons_append, List.nil_append] at S); ((try clear F); have F := S.all; (try simp only [all_cons, all_nil, says_cell, and_true] at F)))
      (try simp (maxSteps := 1000000) (disch := first | omega | assumption | exact Nat.le_of_ble_eq_true rfl) only [go_sem, ↓mwp_block, simprocAttr, q6, e6, F])
      refine call_intro (oU16_ok _ S.p1 ⟨by omega, by omega⟩ (by omega)) fun _ h S => ?_
      ((try clear F); have F := S.all; (try simp only [all_cons, all_nil, says_cell, and_true] at F))
      (try simp (maxSteps := 1000000) (disch := first | omega | assumption | exact Nat.le_of_ble_eq_true rfl) only [go_sem, ↓mwp_block, simprocAttr, q6, e6, F])
      refine call_intro (oU8_ok _ S ⟨by omega, by omega⟩ (by simp only [List.length_append, le_length]; omega)) fun _ h S => ?_
      ((try clear F); have F := S.all; (try simp only [all_cons, all_nil, says_cell, and_true] at F))
      (try simp (maxSteps := 1000000) (disch := first | omega | assumption | exact Nat.le_of_ble_eq_true rfl) only [go_sem, ↓mwp_block, simprocAttr, q6, e6, F])
      refine call_intro (oI64_ok _ S ⟨by omega, by omega⟩ (by simp only [List.length_append, le_length]; omega)) fun _ h S => ?_
      ((try clear F); have F := S.all; (try simp only [all_cons, all_nil, says_cell, and_true] at F))
      (try simp (maxSteps := 1000000) (disch := first | omega | assumption | exact Nat.le_of_ble_eq_true rfl) only [go_sem, ↓mwp_block, simprocAttr, q6, e6, F])
      refine call_intro (oU8_ok _ S ⟨by omega, by omega⟩ (by simp only [List.length_append, le_length]; omega)) fun _ h S => ?_
      (try simp (maxSteps := 1000000) (disch := first | omega | assumption | exact Nat.le_of_ble_eq_true rfl) only [go_sem, ↓mwp_block, simprocAttr, q54])
      refine hJ' _ _ ?_ ?_
      · (try simp (maxSteps := 1000000) (disch := first | omega | assumption | exact Nat.le_of_ble_eq_true rfl) only [go_sem, ↓mwp_block, simprocAttr, q1, q6, q29, q30, q31, q52, q53, hA2])
        refine ⟨k + 1, rfl, by omega, ?_⟩
        rw [hs2, ← List.append_assoc, hB3, linB]
        simp only [List.append_assoc] at S ⊢
        exact S.d1
      · (try simp (maxSteps := 1000000) (disch := first | omega | assumption | exact Nat.le_of_ble_eq_true rfl) only [go_sem, ↓mwp_block, simprocAttr, q54])
        omega
    · obtain rfl : k = x.ls.length := by omega
      rw [List.take_length] at S
      (try simp (maxSteps := 1000000) (disch := first | omega | assumption | exact Nat.le_of_ble_eq_true rfl) only [go_sem, ↓mwp_block, simprocAttr, q31, e31])
      refine hJ _ _ ?_ ?_
      · (try simp (maxSteps := 1000000) (disch := first | omega | assumption | exact Nat.le_of_ble_eq_true rfl) only [go_sem, ↓mwp_block, simprocAttr, q1, e1, q6, e6, q29, e29, q30, e30])
        refine ⟨i + 1, rfl, by omega, ?_⟩
        rw [hs1, ← List.append_assoc, hB1, odrB]
        rw [← hB2] at S
        simp only [List.append_assoc] at S ⊢
        exact S
      · (try simp (maxSteps := 1000000) (disch := first | omega | assumption | exact Nat.le_of_ble_eq_true rfl) only [go_sem, ↓mwp_block, simprocAttr, e31])
        omega
  obtain rfl : i = C.os.length := by omega
  rw [List.take_length] at S
  clear hJ
  have hfl := flat_len (f := odrB) (n := 125) (l := C.os) fun x hx => odrB_len (k3 x hx).1.2.1.2
  generalize hB1 : B0 ++ le 1 C.os.length ++ C.os.flatMap odrB = B1 at S
  have hB1l : B1.length ≤ 2901 := by rw [← hB1, List.length_append, List.length_append, le_length]; omega
  ((try clear F); have F := S.all; (try simp only [all_cons, all_nil, says_cell, and_true] at F))
  (try simp (maxSteps := 1000000) (disch := first | omega | assumption | exact Nat.le_of_ble_eq_true rfl) only [go_sem, ↓mwp_block, simprocAttr, e1, e6, F, Cfg.enc])
  refine call_intro (oU8_ok _ S ⟨by omega, by omega⟩ (by omega)) fun _ h S => ?_
  ((try clear F); have F := S.all; (try simp only [all_cons, all_nil, says_cell, and_true] at F))
  (try simp (maxSteps := 1000000) (disch := first | omega | assumption | exact Nat.le_of_ble_eq_true rfl) only [go_sem, ↓mwp_block, simprocAttr, e1, F, Cfg.enc])
  refine loop_intro (fun ρ h' => ρ 6 = .pointer (some ⟨o, 0, none⟩) ∧ ρ 77 = .slice C.A2 C.ss.length C.c2 ∧ ρ 78 = .int .i64 C.ss.length ∧ ∃ i : Nat, ρ 79 = .int .i64 i ∧ i ≤ C.ss.length ∧
    St h0 h' (outA o (B1 ++ le 1 C.ss.length ++ (C.ss.take i).flatMap supB) false :: l)) (fun ρ _ => C.ss.length - (iv (ρ 79)).toNat) ?_ ?_
  · (try simp (maxSteps := 1000000) (disch := first | omega | assumption | exact Nat.le_of_ble_eq_true rfl) only [go_sem, ↓mwp_block, simprocAttr, e6])
    exact ⟨0, rfl, by omega, by simp only [List.take_zero, List.flatMap_nil, List.append_nil]; exact S.d1⟩
  clear S F e1 e6 e29 e30 e31
  rintro ρ h J hJ ⟨e6, e77, e78, i, e79, hi, S⟩
  (try simp (maxSteps := 1000000) (disch := first | omega | assumption | exact Nat.le_of_ble_eq_true rfl) only [go_sem, ↓mwp_block, simprocAttr, e78, e79])
  have hfl2 := fun i => flat_len (f := supB) (n := 11) (l := C.ss.take i) fun x _ => by rw [supB_len]; exact Nat.le_refl _
  refine cond_dec (fun hlt => ?_) (fun hlt => ?_)
  · have hil : i < C.ss.length := by omega
    obtain ⟨b, off, hA, hr1⟩ := (r _ S.tl).ss.at hil
    have hs1 := flat_snoc' (f := supB) hil
    have hx := k4.1 _ (List.getElem_mem hil)
    have hfl2 := hfl2 i
    have hlt20 : (C.ss.take i).length ≤ 20 := by rw [List.length_take]; omega
    generalize C.ss[i] = x at *
    obtain ⟨⟨s0, s1⟩, ⟨y0, y1⟩, c0, c1⟩ := hx
    generalize hB2 : B1 ++ le 1 C.ss.length ++ (C.ss.take i).flatMap supB = B2 at S
    have hB2l : B2.length ≤ 3200 := by rw [← hB2, List.length_append, List.length_append, le_length]; omega
    (try simp (maxSteps := 1000000) (disch := first | omega | assumption | exact Nat.le_of_ble_eq_true rfl) only [go_sem, ↓mwp_block, simprocAttr, e77, e79, hA, hr1])
    (refine st_alloc S ?_; clear S; intro q h S; (try simp only [splice_cons, splice_nil, List.set_cons_zero, List.set_cons_succ, Nat.zero_add, Nat.reduceAdd, List.cons_append, List.nil_append] at S); ((try clear F); have F := S.all; (try simp only [all_cons, all_nil, says_cell, and_true] at F)))
    (try simp (maxSteps := 1000000) (disch := first | omega | assumption | exact Nat.le_of_ble_eq_true rfl) only [go_sem, ↓mwp_block, simprocAttr, F, Sup.enc])
    (refine st_store (by first | exact S | exact S.p1 | exact S.p2 | exact S.p3 | exact S.p4 | exact S.p5 | exact S.p6 | exact S.p7 | exact S.p8 | exact S.p9 | exact S.p10 | exact S.p11) (by rfl) (by rfl) (Nat.le_of_ble_eq_true rfl) ?_; clear S; intro h S; (try simp only [splice_cons, splice_nil, List.set_cons_zero, List.set_cons_succ, Nat.zero_add, Nat.reduceAdd, List.cons_append, List.nil_append] at S); ((try clear F); have F := S.all; (try simp only [all_cons, all_nil, says_cell, and_true] at F)))
    (try simp (maxSteps := 1000000) (disch := first | omega | assumption | exact Nat.le_of_ble_eq_true rfl) only [go_sem, ↓mwp_block, simprocAttr, e6, F])
    refine call_intro (oU16_ok _ S.p1 ⟨by omega, by omega⟩ (by omega)) fun _ h S => ?_
    ((try clear F); have F := S.all; (try simp only [all_cons, all_nil, says_cell, and_true] at F))
    (try simp (maxSteps := 1000000) (disch := first | omega | assumption | exact Nat.le_of_ble_eq_true rfl) only [go_sem, ↓mwp_block, simprocAttr, e6, F])
    refine call_intro (oI64_ok _ S ⟨by omega, by omega⟩ (by simp only [List.length_append, le_length]; omega)) fun _ h S => ?_
    ((try clear F); have F := S.all; (try simp only [all_cons, all_nil, says_cell, and_true] at F))
    (try simp (maxSteps := 1000000) (disch := first | omega | assumption | exact Nat.le_of_ble_eq_true rfl) only [go_sem, ↓mwp_block, simprocAttr, e6, F])
    refine call_intro (oU8_ok _ S ⟨by omega, by omega⟩ (by simp only [List.length_append, le_length]; omega)) fun _ h S => ?_
    (try simp (maxSteps := 1000000) (disch := first | omega | assumption | exact Nat.le_of_ble_eq_true rfl) only [go_sem, ↓mwp_block, simprocAttr, e79])
    refine hJ _ _ ?_ ?_
    · (try simp (maxSteps := 1000000) (disch := first | omega | assumption | exact Nat.le_of_ble_eq_true rfl) only [go_sem, ↓mwp_block, simprocAttr, e6, e77, e78, hA])
      refine ⟨i + 1, rfl, by omega, ?_⟩
      rw [hs1, ← List.append_assoc, hB2, supB]
      simp only [List.append_assoc] at S ⊢
      exact S.d1
    · (try simp (maxSteps := 1000000) (disch := first | omega | assumption | exact Nat.le_of_ble_eq_true rfl) only [go_sem, ↓mwp_block, simprocAttr, e79])
      omega
  obtain rfl : i = C.ss.length := by omega
  have hfl3 := hfl2 C.ss.length
  rw [List.take_length] at S hfl3
  (try simp (maxSteps := 1000000) (disch := first | omega | assumption | exact Nat.le_of_ble_eq_true rfl) only [go_sem, ↓mwp_block, simprocAttr, e6])
  refine call_intro (End_ok S (by simp only [List.length_append, le_length]; omega)) ?_
  rintro _ h ⟨s, rfl, S⟩
  (try simp (maxSteps := 1000000) (disch := first | omega | assumption | exact Nat.le_of_ble_eq_true rfl) only [go_sem, ↓mwp_block, simprocAttr])
  refine hK _ _ (.inr ⟨hok, _, rfl, ?_⟩)
  have S := S.d1
  have he : B1 ++ le 1 C.ss.length ++ C.ss.flatMap supB = encC C := by
    rw [← hB1, ← hB0, encC]
    simp only [List.append_assoc]
  rw [he] at S
  exact S
end
end Go.Proofs.Ytblalmgahfbalaa.MX
