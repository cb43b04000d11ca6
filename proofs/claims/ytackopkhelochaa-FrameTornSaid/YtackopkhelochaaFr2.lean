/- Frames: by the program and by the document; the law FrameSums. -/
import Derived.Test.YtackopkhelochaaFr1
import Derived.Test.YtackopkhelochaaMXP
namespace Go.Proofs.Ytackopkhelochaa.MX
open Go Go.Proofs
set_option linter.unusedSimpArgs false
set_option linter.unusedVariables false

theorem put1 {v : Int} {bs : List UInt8} (h0 : 0 ≤ v) (h1 : v < 256) : putBs 1 v bs false = bs ++ le 1 v ∧ putBad 1 v false = false := by
  have : putBad 1 v false = false := by simp [putBad]; omega
  exact ⟨by simp [putBs, this], this⟩
theorem put2 {v : Int} {bs : List UInt8} (h0 : 0 ≤ v) (h1 : v < 65536) : putBs 2 v bs false = bs ++ le 2 v ∧ putBad 2 v false = false := by
  have : putBad 2 v false = false := by simp [putBad]; omega
  exact ⟨by simp [putBs, this], this⟩
theorem put4 {v : Int} {bs : List UInt8} (h0 : 0 ≤ v) (h1 : v < 4294967296) : putBs 4 v bs false = bs ++ le 4 v ∧ putBad 4 v false = false := by
  have : putBad 4 v false = false := by simp [putBad]; omega
  exact ⟨by simp [putBs, this], this⟩
theorem outNew {h0 h : Heap} {l : List HP} {o : Nat} (S : St h0 h (cellA o [.slice none 0 0, .bool false] 86 :: l)) : St h0 h (outA o [] false :: l) :=
  outA_open.2 ⟨_, (S.nilS).swap⟩

theorem Bytes2_ok {h0 h : Heap} {l : List HP} {o : Nat} {bs : List UInt8} {A : Option Addr} {c : Nat} {ys : List UInt8} (S : St h0 h (outA o bs false :: l)) (ha : ∀ h', St h0 h' l → Arr bEnc 1 h' A ys) (hl : bs.length + ys.length < 900000) (hy : ys.length < 65536) :
    CallsH Try.prog 84 [.pointer (some ⟨o, 0, none⟩), .slice A ys.length c] h fun r h' => St h0 h' (outA o (bs ++ le 2 ys.length ++ ys) false :: l) := by
  (refine enterK c_codec_Out_Bytes (Nat.le_of_ble_eq_true rfl) fun K hK => ?_; (try simp (maxSteps := 1000000) (disch := first | omega | assumption | exact Nat.le_of_ble_eq_true rfl) only [go_sem, ↓mwp_block, simprocAttr, ir_codec_Out_Bytes]))
  refine call_intro (U16_ok _ S ⟨by omega, by omega⟩ (by omega)) fun r h S => ?_
  rw [(put2 (by omega) (by omega)).1, (put2 (bs := []) (by omega) (by omega)).2] at S
  (try simp (maxSteps := 1000000) (disch := first | omega | assumption | exact Nat.le_of_ble_eq_true rfl) only [go_sem, ↓mwp_block, simprocAttr])
  refine call_intro (Plain_ok ys S (ha _ S.tl) (by simp only [List.length_append, le_length]; omega)) fun r h S => ?_
  (try simp (maxSteps := 1000000) (disch := first | omega | assumption | exact Nat.le_of_ble_eq_true rfl) only [go_sem, ↓mwp_block, simprocAttr])
  exact hK _ _ (by simpa using S)

/-- A frame's sum. -/
def fsum (ys : List UInt8) : Nat := sumOf (le 2 ys.length ++ ys)
theorem sum_ok {h0 h : Heap} {l : List HP} {A : Option Addr} {c : Nat} {ys : List UInt8} (S : St h0 h l) (ha : ∀ h', St h0 h' l → Arr bEnc 1 h' A ys) (hy : ys.length < 65536) :
    CallsH Try.prog 57 [.slice A ys.length c] h fun r h' => r = .int .u32 (fsum ys) ∧ St h0 h' l := by
  (refine enterK c_frame_sum (Nat.le_of_ble_eq_true rfl) fun K hK => ?_; (try simp (maxSteps := 1000000) (disch := first | omega | assumption | exact Nat.le_of_ble_eq_true rfl) only [go_sem, ↓mwp_block, simprocAttr, ir_frame_sum]))
  (refine st_alloc S ?_; clear S; intro o h S; (try simp only [splice_cons, splice_nil, List.set_cons_zero, List.set_cons_succ, Nat.zero_add, Nat.reduceAdd, List.cons_append, List.nil_append] at S); ((try clear F); have F := S.all; (try simp only [all_cons, all_nil, says_cell, and_true] at F)))
  (try simp (maxSteps := 1000000) (disch := first | omega | assumption | exact Nat.le_of_ble_eq_true rfl) only [go_sem, ↓mwp_block, simprocAttr])
  refine call_intro (Bytes2_ok (outNew S) ha (by simp; omega) hy) fun r h S => ?_
  (try simp (maxSteps := 1000000) (disch := first | omega | assumption | exact Nat.le_of_ble_eq_true rfl) only [go_sem, ↓mwp_block, simprocAttr])
  rw [List.nil_append] at S
  refine call_intro (End_ok S (by simp only [List.length_append, le_length]; omega)) ?_
  rintro _ h ⟨v, rfl, S⟩
  simp only [Bool.false_eq_true, if_false] at S
  obtain ⟨B, d, rfl⟩ := S.sl
  (try simp (maxSteps := 1000000) (disch := first | omega | assumption | exact Nat.le_of_ble_eq_true rfl) only [go_sem, ↓mwp_block, simprocAttr])
  refine call_intro (Sum_ok (S.arr bEnc_len) (by simp only [List.length_append, le_length]; omega)) ?_
  rintro _ _ ⟨rfl, rfl⟩
  (try simp (maxSteps := 1000000) (disch := first | omega | assumption | exact Nat.le_of_ble_eq_true rfl) only [go_sem, ↓mwp_block, simprocAttr])
  exact hK _ _ ⟨rfl, S.tl.tl⟩

/-- The frame of some bytes. -/
def frameOf (ys : List UInt8) : List UInt8 := le 1 165 ++ (le 2 ys.length ++ (le 4 (fsum ys) ++ ys))
theorem frameOf_len (ys : List UInt8) : (frameOf ys).length = 7 + ys.length := by simp [frameOf, le_length]; omega
theorem Frame_ok {h0 h : Heap} {l : List HP} {A : Option Addr} {c : Nat} {ys : List UInt8} (S : St h0 h l) (ha : ∀ h', St h0 h' l → Arr bEnc 1 h' A ys) (hy : ys.length < 9223372036854775808) :
    CallsH Try.prog 16 [.slice A ys.length c] h fun r h' => ((ys.length < 1 ∨ 60000 < ys.length) ∧ r = .tuple #[.slice none 0 0, .int .i64 4] ∧ St h0 h' l) ∨ (1 ≤ ys.length ∧ ys.length ≤ 60000 ∧ ∃ v, r = .tuple #[v, .int .i64 0] ∧ St h0 h' (ownA bEnc 1 5 v (frameOf ys) :: l)) := by
  by_cases h1 : ys.length < 1
  · (refine enterK c_frame_Frame (Nat.le_of_ble_eq_true rfl) fun K hK => ?_; (try simp (maxSteps := 1000000) (disch := first | omega | assumption | exact Nat.le_of_ble_eq_true rfl) only [go_sem, ↓mwp_block, simprocAttr, ir_frame_Frame]))
    exact hK _ _ (.inl ⟨.inl h1, rfl, S⟩)
  · by_cases h2 : 60000 < ys.length
    · (refine enterK c_frame_Frame (Nat.le_of_ble_eq_true rfl) fun K hK => ?_; (try simp (maxSteps := 1000000) (disch := first | omega | assumption | exact Nat.le_of_ble_eq_true rfl) only [go_sem, ↓mwp_block, simprocAttr, ir_frame_Frame]))
      exact hK _ _ (.inl ⟨.inr h2, rfl, S⟩)
    · (refine enterK c_frame_Frame (Nat.le_of_ble_eq_true rfl) fun K hK => ?_; (try simp (maxSteps := 1000000) (disch := first | omega | assumption | exact Nat.le_of_ble_eq_true rfl) only [go_sem, ↓mwp_block, simprocAttr, ir_frame_Frame]))
      (refine st_alloc S ?_; clear S; intro o h S; (try simp only [splice_cons, splice_nil, List.set_cons_zero, List.set_cons_succ, Nat.zero_add, Nat.reduceAdd, List.cons_append, List.nil_append] at S); ((try clear F); have F := S.all; (try simp only [all_cons, all_nil, says_cell, and_true] at F)))
      (try simp (maxSteps := 1000000) (disch := first | omega | assumption | exact Nat.le_of_ble_eq_true rfl) only [go_sem, ↓mwp_block, simprocAttr])
      refine call_intro (U8_ok _ (outNew S) ⟨by omega, by omega⟩ (by simp)) fun r h S => ?_
      rw [(put1 (by omega) (by omega)).1, (put1 (bs := []) (by omega) (by omega)).2, List.nil_append] at S
      (try simp (maxSteps := 1000000) (disch := first | omega | assumption | exact Nat.le_of_ble_eq_true rfl) only [go_sem, ↓mwp_block, simprocAttr])
      refine call_intro (U16_ok _ S ⟨by omega, by omega⟩ (by simp only [List.length_append, le_length]; omega)) fun r h S => ?_
      rw [(put2 (by omega) (by omega)).1, (put2 (bs := []) (by omega) (by omega)).2] at S
      (try simp (maxSteps := 1000000) (disch := first | omega | assumption | exact Nat.le_of_ble_eq_true rfl) only [go_sem, ↓mwp_block, simprocAttr])
      refine call_intro (sum_ok S (fun h' S => ha h' S.tl) (by omega)) ?_
      rintro _ h ⟨rfl, S⟩
      have hs := sum_lt (le 2 ys.length ++ ys)
      change fsum ys < _ at hs
      (try simp (maxSteps := 1000000) (disch := first | omega | assumption | exact Nat.le_of_ble_eq_true rfl) only [go_sem, ↓mwp_block, simprocAttr])
      refine call_intro (U32_ok _ S ⟨by omega, by omega⟩ (by simp only [List.length_append, le_length]; omega)) fun r h S => ?_
      rw [(put4 (by omega) (by omega)).1, (put4 (bs := []) (by omega) (by omega)).2] at S
      (try simp (maxSteps := 1000000) (disch := first | omega | assumption | exact Nat.le_of_ble_eq_true rfl) only [go_sem, ↓mwp_block, simprocAttr])
      refine call_intro (Plain_ok ys S (ha _ S.tl) (by simp only [List.length_append, le_length]; omega)) fun r h S => ?_
      (try simp (maxSteps := 1000000) (disch := first | omega | assumption | exact Nat.le_of_ble_eq_true rfl) only [go_sem, ↓mwp_block, simprocAttr])
      simp only [Bool.false_eq_true, if_false] at S
      refine call_intro (End_ok S (by simp only [List.length_append, le_length]; omega)) ?_
      rintro _ h ⟨v, rfl, S⟩
      simp only [Bool.false_eq_true, if_false] at S
      (try simp (maxSteps := 1000000) (disch := first | omega | assumption | exact Nat.le_of_ble_eq_true rfl) only [go_sem, ↓mwp_block, simprocAttr])
      refine hK _ _ (.inr ⟨by omega, by omega, v, rfl, ?_⟩)
      have S := S.d1
      simpa only [frameOf, List.append_assoc] using S

theorem RefFrame_ok {h0 h : Heap} {l : List HP} {A : Option Addr} {c : Nat} {ys : List UInt8} (S : St h0 h l) (ha : ∀ h', St h0 h' l → Arr bEnc 1 h' A ys) (hy : ys.length < 65536) :
    CallsH Try.prog 20 [.slice A ys.length c] h fun r h' => St h0 h' (ownA bEnc 1 5 r (frameOf ys) :: l) := by
  have hw : IntKind.u64.wrap (ys.length : Int) = ys.length := wrap_u64 (by omega) (by omega)
  (refine enterK c_recoupref01_Frame (Nat.le_of_ble_eq_true rfl) fun K hK => ?_; (try simp (maxSteps := 1000000) (disch := first | omega | assumption | exact Nat.le_of_ble_eq_true rfl) only [go_sem, ↓mwp_block, simprocAttr, ir_recoupref01_Frame]))
  refine call_intro (RefBytes_ok (ys.length : Int) 2 S (by omega) (by omega)) fun r h S => ?_
  obtain ⟨B, d, rfl⟩ := S.sl
  (try simp (maxSteps := 1000000) (disch := first | omega | assumption | exact Nat.le_of_ble_eq_true rfl) only [go_sem, ↓mwp_block, simprocAttr])
  (refine st_alloc S ?_; clear S; intro o h S; (try simp only [splice_cons, splice_nil, List.set_cons_zero, List.set_cons_succ, Nat.zero_add, Nat.reduceAdd, List.cons_append, List.nil_append] at S); ((try clear F); have F := S.all; (try simp only [all_cons, all_nil, says_cell, and_true] at F)))
  (try simp (maxSteps := 1000000) (disch := first | omega | assumption | exact Nat.le_of_ble_eq_true rfl) only [go_sem, ↓mwp_block, simprocAttr])
  have S := S.cellOwn (enc := bEnc) (sz := 1) (ys := []) bEnc_len rfl (by decide)
  refine st_append (bytes := 1) (xs := []) bEnc_len (by omega) bEnc_plain rfl S rfl (src_arr bEnc_len (S.p1.arr bEnc_len) rfl) (by simp [le_length]) (by simp [le_length]) ?_
  clear S F
  intro v1 h S
  (try simp (maxSteps := 1000000) (disch := first | omega | assumption | exact Nat.le_of_ble_eq_true rfl) only [go_sem, ↓mwp_block, simprocAttr])
  refine st_append (bytes := 1) (ys := ys) bEnc_len (by omega) bEnc_plain rfl S rfl (src_arr bEnc_len (ha _ S.tl.tl) rfl) (by simp [le_length]; omega) (by simp [le_length]; omega) ?_
  clear S
  intro v2 h S
  (try simp (maxSteps := 1000000) (disch := first | omega | assumption | exact Nat.le_of_ble_eq_true rfl) only [go_sem, ↓mwp_block, simprocAttr])
  (refine st_alloc S ?_; clear S; intro q h S; (try simp only [splice_cons, splice_nil, List.set_cons_zero, List.set_cons_succ, Nat.zero_add, Nat.reduceAdd, List.cons_append, List.nil_append] at S); ((try clear F); have F := S.all; (try simp only [all_cons, all_nil, says_cell, and_true] at F)))
  (try simp (maxSteps := 1000000) (disch := first | omega | assumption | exact Nat.le_of_ble_eq_true rfl) only [go_sem, ↓mwp_block, simprocAttr])
  have S := S.cellOwn (enc := bEnc) (sz := 1) (ys := [B8 165]) bEnc_len rfl (by decide)
  refine st_append (bytes := 1) (xs := [B8 165]) bEnc_len (by omega) bEnc_plain rfl S rfl (src_arr bEnc_len (S.p2.arr bEnc_len) rfl) (by simp [le_length]) (by simp [le_length]) ?_
  clear S F
  intro v3 h S
  obtain ⟨B2, d2, rfl⟩ := S.p1.sl
  (try simp (maxSteps := 1000000) (disch := first | omega | assumption | exact Nat.le_of_ble_eq_true rfl) only [go_sem, ↓mwp_block, simprocAttr])
  have hs := sum_lt (le 2 ys.length ++ ys)
  have hw2 : IntKind.u64.wrap (sumOf (le 2 ys.length ++ ys) : Int) = sumOf (le 2 ys.length ++ ys) := wrap_u64 (by omega) (by omega)
  refine call_intro (RefSum_ok (S.p1.arr bEnc_len) (by simp [le_length]; omega)) ?_
  rintro _ _ ⟨rfl, rfl⟩
  (try simp (maxSteps := 1000000) (disch := first | omega | assumption | exact Nat.le_of_ble_eq_true rfl) only [go_sem, ↓mwp_block, simprocAttr, hw2])
  refine call_intro (RefBytes_ok _ 4 S (by omega) (by omega)) fun r h S => ?_
  obtain ⟨B3, d3, rfl⟩ := S.sl
  (try simp (maxSteps := 1000000) (disch := first | omega | assumption | exact Nat.le_of_ble_eq_true rfl) only [go_sem, ↓mwp_block, simprocAttr])
  refine st_append (bytes := 1) bEnc_len (by omega) bEnc_plain rfl S.p1 rfl (src_arr bEnc_len (S.arr bEnc_len) rfl) (by simp [le_length]) (by simp [le_length]) ?_
  clear S
  intro v4 h S
  (try simp (maxSteps := 1000000) (disch := first | omega | assumption | exact Nat.le_of_ble_eq_true rfl) only [go_sem, ↓mwp_block, simprocAttr])
  refine st_append (bytes := 1) (ys := ys) bEnc_len (by omega) bEnc_plain rfl S rfl (src_arr bEnc_len (ha _ S.tl.tl.tl.tl) rfl) (by simp [le_length]; omega) (by simp [le_length]; omega) ?_
  clear S
  intro v5 h S
  (try simp (maxSteps := 1000000) (disch := first | omega | assumption | exact Nat.le_of_ble_eq_true rfl) only [go_sem, ↓mwp_block, simprocAttr])
  refine hK _ _ ?_
  have S := S.d1.d1.d1
  have e1 : le 1 165 = [B8 165] := rfl
  simpa only [frameOf, fsum, e1, List.append_assoc] using S

structure U8 where
  n : UInt8
def U8.enc (x : U8) : List Value := bEnc x.n
def U8.ok (x : U8) : Prop := True
theorem u8_of {h : Heap} {d : Nat} {cs : List Value} (hg : Good Try.prog h d 5 cs) : ∃ x : U8, cs = x.enc ∧ x.ok := by
  have hl : leaves Try.prog 2 5 = some [.int .u8] := by kernel_rfl
  obtain ⟨a0, _, rfl, w0, rfl⟩ := leaves_of 2 hg hl
  have hw := wf_u8 w0
  refine ⟨⟨B8 a0⟩, ?_, trivial⟩
  rw [U8.enc, ← bEnc_B8 hw.1 hw.2]
theorem arrU8 {h : Heap} {A : Option Addr} {xs : List U8} (ha : Arr U8.enc 1 h A xs) : Arr bEnc 1 h A (xs.map U8.n) := by
  intro i hi
  obtain ⟨b, off, hA, hr⟩ := ha i (by simpa using hi)
  exact ⟨b, off, hA, by rw [hr, List.getElem_map]; rfl⟩

theorem awake03_ok (h : Heap) : CallsH Try.prog 15 [] h fun v h' => v = .bool true ∧ Fr h h' [] := by
  have S := St.nil h
  refine enterK c_recouplaw03_awake (Nat.le_of_ble_eq_true rfl) fun K hK => ?_
  (try simp (maxSteps := 1000000) (disch := first | omega | assumption | exact Nat.le_of_ble_eq_true rfl) only [go_sem, ↓mwp_block, simprocAttr, ir_recouplaw03_awake, zerosL])
  (refine st_alloc S ?_; clear S; intro b h S; (try simp only [splice_cons, splice_nil, List.set_cons_zero, List.set_cons_succ, Nat.zero_add, Nat.reduceAdd, List.cons_append, List.nil_append] at S); ((try clear F); have F := S.all; (try simp only [all_cons, all_nil, says_cell, and_true] at F)))
  (try simp (maxSteps := 1000000) (disch := first | omega | assumption | exact Nat.le_of_ble_eq_true rfl) only [go_sem, ↓mwp_block, simprocAttr])
  refine any_b2b (e := 5) rfl (by kernel_rfl) (by kernel_rfl) rfl S ?_
  clear S F
  intro h S
  (try simp (maxSteps := 1000000) (disch := first | omega | assumption | exact Nat.le_of_ble_eq_true rfl) only [go_sem, ↓mwp_block, simprocAttr])
  have ha := St.markArr (enc := bEnc) (sz := 1) (ys := [49, 50, 51, 52, 53, 54, 55, 56, 57]) bEnc_len S
  refine call_intro (Sum_ok ha (by decide)) ?_
  rintro _ _ ⟨rfl, rfl⟩
  rw [sum_check]
  (try simp (maxSteps := 1000000) (disch := first | omega | assumption | exact Nat.le_of_ble_eq_true rfl) only [go_sem, ↓mwp_block, simprocAttr])
  exact hK _ _ ⟨rfl, S.fr⟩

theorem FrameSums_ok' (A : Option Addr) (c : Nat) (xs : List UInt8) (h : Heap) (ha : Arr bEnc 1 h A xs) (_ : xs.length ≤ c) (_ : c ≤ maxLen) (hok : ∀ x ∈ xs, True) :
    CallsH Try.prog 3 [.slice A xs.length c] h fun v h' => v = .bool true ∧ Fr h h' [] := by
  have S := St.nil h
  (refine enterK c_recouplaw03_FrameSums (Nat.le_of_ble_eq_true rfl) fun K hK => ?_; (try simp (maxSteps := 1000000) (disch := first | omega | assumption | exact Nat.le_of_ble_eq_true rfl) only [go_sem, ↓mwp_block, simprocAttr, ir_recouplaw03_FrameSums]))
  refine call_intro (awake03_ok _) ?_
  rintro _ h1 ⟨rfl, hf⟩
  have S := S.frame hf
  (try simp (maxSteps := 1000000) (disch := first | omega | assumption | exact Nat.le_of_ble_eq_true rfl) only [go_sem, ↓mwp_block, simprocAttr])
  refine cond_dec (fun hg => ?_) (fun hg => ?_)
  · (try simp (maxSteps := 1000000) (disch := first | omega | assumption | exact Nat.le_of_ble_eq_true rfl) only [go_sem, ↓mwp_block, simprocAttr])
    refine call_intro (awake03_ok _) ?_
    rintro _ h2 ⟨rfl, hf⟩
    (try simp (maxSteps := 1000000) (disch := first | omega | assumption | exact Nat.le_of_ble_eq_true rfl) only [go_sem, ↓mwp_block, simprocAttr])
    exact hK _ _ ⟨rfl, (S.frame hf).fr⟩
  · (try simp (maxSteps := 1000000) (disch := first | omega | assumption | exact Nat.le_of_ble_eq_true rfl) only [go_sem, ↓mwp_block, simprocAttr])
    refine call_intro (Frame_ok (ys := xs) S (fun h' S => ha.fr S.fr (by simp)) (by omega)) ?_
    rintro _ h hor
    rcases hor with ⟨hlen, rfl, S⟩ | ⟨h1, h2, v, rfl, S⟩
    · (try simp (maxSteps := 1000000) (disch := first | omega | assumption | exact Nat.le_of_ble_eq_true rfl) only [go_sem, ↓mwp_block, simprocAttr])
      refine call_intro (Sum_ok (ha.fr S.fr (by simp)) (by omega)) ?_
      rintro _ _ ⟨rfl, rfl⟩
      (try simp (maxSteps := 1000000) (disch := first | omega | assumption | exact Nat.le_of_ble_eq_true rfl) only [go_sem, ↓mwp_block, simprocAttr])
      refine call_intro (RefSum_ok (ha.fr S.fr (by simp)) (by omega)) ?_
      rintro _ _ ⟨rfl, rfl⟩
      (try simp (maxSteps := 1000000) (disch := first | omega | assumption | exact Nat.le_of_ble_eq_true rfl) only [go_sem, ↓mwp_block, simprocAttr])
      rcases hlen with hl1 | hl2
      · (try simp (maxSteps := 1000000) (disch := first | omega | assumption | exact Nat.le_of_ble_eq_true rfl) only [go_sem, ↓mwp_block, simprocAttr])
        exact hK _ _ ⟨rfl, S.fr⟩
      · (try simp (maxSteps := 1000000) (disch := first | omega | assumption | exact Nat.le_of_ble_eq_true rfl) only [go_sem, ↓mwp_block, simprocAttr])
        exact hK _ _ ⟨rfl, S.fr⟩
    · obtain ⟨B, d, rfl⟩ := S.sl
      (try simp (maxSteps := 1000000) (disch := first | omega | assumption | exact Nat.le_of_ble_eq_true rfl) only [go_sem, ↓mwp_block, simprocAttr])
      refine call_intro (Sum_ok (ha.fr S.fr (by simp)) (by omega)) ?_
      rintro _ _ ⟨rfl, rfl⟩
      (try simp (maxSteps := 1000000) (disch := first | omega | assumption | exact Nat.le_of_ble_eq_true rfl) only [go_sem, ↓mwp_block, simprocAttr])
      refine call_intro (RefSum_ok (ha.fr S.fr (by simp)) (by omega)) ?_
      rintro _ _ ⟨rfl, rfl⟩
      (try simp (maxSteps := 1000000) (disch := first | omega | assumption | exact Nat.le_of_ble_eq_true rfl) only [go_sem, ↓mwp_block, simprocAttr])
      refine call_intro (RefFrame_ok (ys := xs) S (fun h' S => ha.fr S.fr (by simp)) (by omega)) ?_
      intro r h S
      obtain ⟨B2, d2, rfl⟩ := S.sl
      (try simp (maxSteps := 1000000) (disch := first | omega | assumption | exact Nat.le_of_ble_eq_true rfl) only [go_sem, ↓mwp_block, simprocAttr])
      refine call_intro (Bytes_ok (S.p1.arr bEnc_len) (S.arr bEnc_len) (by rw [frameOf_len]; omega) (by rw [frameOf_len]; omega)) ?_
      rintro _ _ ⟨rfl, rfl⟩
      (try simp (maxSteps := 1000000) (disch := first | omega | assumption | exact Nat.le_of_ble_eq_true rfl) only [go_sem, ↓mwp_block, simprocAttr])
      exact hK _ _ ⟨rfl, S.fr⟩

theorem FrameSums_ok (A : Option Addr) (c : Nat) (xs : List U8) (h : Heap) (ha : Arr U8.enc 1 h A xs) (h1 : xs.length ≤ c) (h2 : c ≤ maxLen) (hok : ∀ x ∈ xs, x.ok) :
    CallsH Try.prog 3 [.slice A xs.length c] h fun v h' => v = .bool true ∧ Fr h h' [] := by
  have := FrameSums_ok' A c (xs.map U8.n) h (arrU8 ha) (by simpa using h1) h2 (fun _ _ => trivial)
  rwa [List.length_map] at this
end Go.Proofs.Ytackopkhelochaa.MX
