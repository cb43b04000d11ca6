import Derived.Test.YtijnkebgciaieaaGreatK13
import Derived.Test.YtijnkebgciaieaaGreatK09
import Derived.Test.YtijnkebgciaieaaGreatK11
import Derived.Test.YtijnkebgciaieaaGreatK12
import Derived.Test.YtijnkebgciaieaaGreatIR
namespace Go.Proofs.YtijnkebgciaieaaGreat.MX
open Go Go.Proofs
set_option linter.unusedSimpArgs false
set_option linter.unusedVariables false
def I64 (n : Int) : Prop := -9223372036854775808 ≤ n ∧ n < 9223372036854775808
def bEnc (x : UInt8) : List Value := [.int .u8 (x.toNat : Int)]
theorem bEnc_len (x : UInt8) : (bEnc x).length = 1 := rfl
theorem bEnc_plain (x : UInt8) : pC (bEnc x) = true := rfl
theorem u8_lt (x : UInt8) : (x.toNat : Int) < 256 := by have := x.toNat_lt; omega
def B8 (n : Int) : UInt8 := UInt8.ofNat (n % 256).toNat
theorem B8_toNat (n : Int) : ((B8 n).toNat : Int) = n % 256 := by
 have h1 : 0 ≤ n % 256 := Int.emod_nonneg _ (by decide)
 have h2 : n % 256 < 256 := Int.emod_lt_of_pos _ (by decide)
 simp only [B8, UInt8.toNat_ofNat']
 omega
theorem wrap_u8_emod (n : Int) : IntKind.u8.wrap n = n % 256 := by
 simp only [IntKind.wrap, IntKind.signed, IntKind.bits]
 simp
theorem wrap_u8B (n : Int) : IntKind.u8.wrap n = ((B8 n).toNat : Int) := by rw [wrap_u8_emod, B8_toNat]
def le : Nat → Int → List UInt8
 | 0, _ => []
 | n + 1, v => B8 v :: le n (v / 256)
theorem le_length : ∀ (n : Nat) (v : Int), (le n v).length = n
 | 0, _ => rfl
 | n + 1, v => by simp [le, le_length n]
theorem le_succ : ∀ (n : Nat) (v : Int), le (n + 1) v = le n v ++ [B8 (v / 256 ^ n)]
 | 0, v => by simp [le]
 | n + 1, v => by
  rw [show le (n + 1 + 1) v = B8 v :: le (n + 1) (v / 256) from rfl, le_succ n (v / 256)]
  simp only [le, l_j]
  rw [Int.pow_succ, Int.mul_comm, Int.ediv_ediv_of_nonneg (by decide)]
def num : List UInt8 → Int
 | [] => 0
 | x :: l => x.toNat + 256 * num l
theorem num_nonneg : ∀ l, 0 ≤ num l
 | [] => Int.le_refl _
 | x :: l => by have := num_nonneg l; simp only [num]; omega
theorem num_lt : ∀ l, num l < 256 ^ l.length
 | [] => by decide
 | x :: l => by
  have h1 := num_lt l
  have h2 := u8_lt x
  simp only [num, l_f, Int.pow_succ]
  omega
theorem B8_add (x : UInt8) (m : Int) : B8 (x.toNat + 256 * m) = x := by
 apply UInt8.toNat_inj.1
 have h1 := B8_toNat (x.toNat + 256 * m)
 have h2 := u8_lt x
 omega
theorem le_num : ∀ l : List UInt8, le l.length (num l) = l
 | [] => rfl
 | x :: l => by
  have h2 := u8_lt x
  simp only [l_f, le, num, B8_add]
  rw [show (x.toNat + 256 * num l) / 256 = num l by omega, le_num l]
theorem shr_256 (k : Nat) (v : Int) : v.fdiv (2 ^ (8 * k)) = v / 256 ^ k := by
 rw [Int.pow_mul, Int.fdiv_eq_ediv_of_nonneg _ (Int.le_of_lt (Int.pow_pos (by decide)))]
 rfl
theorem shr8 (v : Int) : v.fdiv (2 ^ min 8 64) = v / 256 := by
 have := shr_256 1 v
 simpa using this
theorem fdiv_zero_iff (k : Nat) (v : Int) : v / 256 ^ k = 0 ↔ 0 ≤ v ∧ v < 256 ^ k := by
 have hp : (0 : Int) < 256 ^ k := Int.pow_pos (by decide)
 constructor
 ·intro h
  have h1 := Int.emod_add_mul_ediv v (256 ^ k)
  rw [h, Int.mul_zero, Int.add_zero] at h1
  rw [← h1]
  exact ⟨Int.emod_nonneg _ (Int.ne_of_gt hp), Int.emod_lt_of_pos _ hp⟩
 ·rintro ⟨h1, h2⟩
  exact Int.ediv_eq_zero_of_lt h1 h2
section
set_option maxHeartbeats 4000000
def obxA (o : Nat) (n : Int) (L : List Msg) : HP := exA fun s => starA (cellA o [.int .i64 n, s] 107) (ownA Msg.enc 6 110 s L)
section
variable {h0 h : Heap} {l : List HP} {o : Nat} {n : Int} {L : List Msg}
theorem St.obx : St h0 h (obxA o n L :: l) ↔ ∃ s, St h0 h (cellA o [.int .i64 n, s] 107 :: ownA Msg.enc 6 110 s L :: l) := by
 rw [obxA, St.ex]
 exact exists_congr fun s => St.star
theorem St.isOb (S : St h0 h (obxA o n L :: l)) : ∃ s, IsOb h0.size h o s n L ∧ ∀ h' s' n' L', IsOb h0.size h' o s' n' L' → Fr h h' (o :: blkOf s) → (∀ b ∈ blkOf s', b ∈ blkOf s ∨ h.size ≤ b) → St h0 h' (obxA o n' L' :: l) := by
 rw [obxA, St.ex] at S
 obtain ⟨s, S⟩ := S
 obtain ⟨B, hp, hb, hk⟩ := S.hd
 obtain ⟨C, D, rfl, ⟨rfl, hc⟩, ⟨rfl, hd⟩, hdis⟩ := hp
 refine ⟨s, ⟨hc, hb o (by simp), hd.rebase (fun b hm => hb b (by simp [hm])), hdis o (by simp)⟩, fun h' s' n' L' i hf hs => ?_⟩
 refine hk h' (obxA o n' L') (o :: blkOf s') hf ⟨s', [o], blkOf s', rfl, ⟨rfl, i.blk⟩, ⟨rfl, i.own.rebase fun _ _ => Nat.zero_le _⟩, by simpa using i.apart⟩ ?_
 intro b hm
 rcases List.mem_cons.1 hm with rfl | hm
 ·exact .inl (by simp)
 ·rcases hs b hm with h1 | h1
  ·exact .inl (by simp [h1])
  ·exact .inr h1
theorem NewO_ok (S : St h0 h l) : CallsH Tryz.prog 34 [] h fun v h' => ∃ o, v = .pointer (some ⟨o, 0, none⟩) ∧ St h0 h' (obxA o 1 [] :: l) :=
 (ONew_ok h).mono fun v h' ⟨o, e, hge, _, hb, hf⟩ => ⟨o, e, St.obx.2 ⟨_, (S.new (q := cellA o [.int .i64 1, .slice none 0 0] 107) hf (C := [o]) ⟨rfl, hb⟩ (by simpa using hge)).nilS.p1⟩⟩
theorem PutO_ok (k r v d : Int) (S : St h0 h (obxA o n L :: l)) (hn : 0 ≤ n ∧ n < 9223372036854775807) (hd : -9223372036854775808 ≤ d ∧ d < 9223372036854775807) (hl : L.length < 1000000) :
  CallsH Tryz.prog 103 [.pointer (some ⟨o, 0, none⟩), .int .i64 k, .int .i64 r, .int .i64 v, .int .i64 d] h fun u h' => u = .agg (Msg.mk n k r v 1 (d + 1)).enc.toArray ∧ St h0 h' (obxA o (n + 1) (L ++ [⟨n, k, r, v, 1, d + 1⟩]) :: l) := by
 obtain ⟨s, i, hk⟩ := S.isOb
 exact (Put_ok k r v d i hn hd hl).mono fun u h' ⟨e, s', i', hf, hb⟩ => ⟨e, hk _ _ _ _ i' hf hb⟩
theorem HeardO_ok (key : Int) (S : St h0 h (obxA o n L :: l)) (hl : L.length < 1000000) :
  CallsH Tryz.prog 83 [.pointer (some ⟨o, 0, none⟩), .int .i64 key] h fun v h' =>
   (idxOf (fun m : Msg => decide (m.key = key)) L 0 = -1 ∧ v = .tuple #[.agg Msg.zero.enc.toArray, .bool false] ∧ St h0 h' (obxA o n L :: l)) ∨
    ∃ i : Nat, ∃ hil : i < L.length, idxOf (fun m : Msg => decide (m.key = key)) L 0 = i ∧ v = .tuple #[.agg L[i].enc.toArray, .bool true] ∧ St h0 h' (obxA o n (L.take i ++ L.drop (i + 1)) :: l) := by
 obtain ⟨s, i, hk⟩ := S.isOb
 refine (Heard_ok key i hl).mono fun u h' ⟨hh, hf⟩ => ?_
 rcases hh with ⟨h1, rfl, i'⟩ | ⟨j, hj, h1, rfl, s', i', hb⟩
 ·exact .inl ⟨h1, rfl, hk _ _ _ _ i' hf fun b hb => .inl hb⟩
 ·exact .inr ⟨j, hj, h1, rfl, hk _ _ _ _ i' hf fun b hm => .inl (hb b hm)⟩
theorem DropO_ok (rma kind : Int) (S : St h0 h (obxA o n L :: l)) (hl : L.length < 1000000) :
  CallsH Tryz.prog 71 [.pointer (some ⟨o, 0, none⟩), .int .i64 rma, .int .i64 kind] h fun v h' => St h0 h' (obxA o n (L.filter fun m => !decide (m.rma = rma ∧ m.kind = kind)) :: l) := by
 obtain ⟨s, i, hk⟩ := S.isOb
 exact (Drop_ok rma kind i hl).mono fun u h' ⟨_, ⟨s', i', hb⟩, hf⟩ => hk _ _ _ _ i' hf fun b hm => .inl (hb b hm)
theorem WaitsO_ok (rma : Int) (S : St h0 h (obxA o n L :: l)) (hl : L.length < 1000000) :
  CallsH Tryz.prog 125 [.pointer (some ⟨o, 0, none⟩), .int .i64 rma] h fun v h' => v = .int .i64 (waitsOf rma L) ∧ Fr h h' [] := by
 obtain ⟨s, i, hk⟩ := S.isOb
 exact Waits_ok rma i hl
theorem CloneOut_ok (S : St h0 h (obxA o n L :: l)) (hl : L.length < 1000000) :
  CallsH Tryz.prog 22 [.pointer (some ⟨o, 0, none⟩)] h fun v h' => ∃ p, v = .pointer (some ⟨p, 0, none⟩) ∧ St h0 h' (obxA p n L :: obxA o n L :: l) := by
 obtain ⟨s, S⟩ := St.obx.1 S
 obtain ⟨A, c, rfl⟩ := S.p1.sl
 have hg0 := st_rd1 (off := 0) S
 have hg1 := st_rd1 (off := 1) S
 simp only [l_p, l_o] at hg0 hg1
 have hI : (fun h' => rd1 h' (.pointer (some ⟨o, 0, none⟩)) = some (.int .i64 n) ∧ rd1 h' (.pointer (some ⟨o, 1, none⟩)) = some (.slice A L.length c)) h := ⟨hg0, hg1⟩
 have rx : ∀ K t, readT (fun h' => rd1 h' (.pointer (some ⟨o, 0, none⟩)) = some (.int .i64 n) ∧ rd1 h' (.pointer (some ⟨o, 1, none⟩)) = some (.slice A L.length c)) (fun h' => rd1 h' (.pointer (some ⟨o, 0, none⟩))) K t = K (.int .i64 n) := fun K t => rI (fun h' hh => hh.1) h hI
 have ry : ∀ K t, readT (fun h' => rd1 h' (.pointer (some ⟨o, 0, none⟩)) = some (.int .i64 n) ∧ rd1 h' (.pointer (some ⟨o, 1, none⟩)) = some (.slice A L.length c)) (fun h' => rd1 h' (.pointer (some ⟨o, 1, none⟩))) K t = K (.slice A L.length c) := fun K t => rI (fun h' hh => hh.2) h hI
 (refine eK c_outbox_Outbox_Clone (l_a rfl) fun K hK => ?_; (try simp (disch := first|omega|assumption|exact l_a rfl) only [go_sem, ↓wBk, simprocAttr, ir_outbox_Outbox_Clone]))
 refine dI (fun h' => rd1 h' (.pointer (some ⟨o, 0, none⟩)) = some (.int .i64 n) ∧ rd1 h' (.pointer (some ⟨o, 1, none⟩)) = some (.slice A L.length c)) hI ?_
 (try simp (disch := first|omega|assumption|exact l_a rfl) only [go_sem, ↓wBk, simprocAttr, rx, ry])
 refine cI (CloneMsg_ok (S.p1.arr enc_len) rfl S.p1.own.nilA (by omega)) ?_
 rintro v h' ⟨ho, hf, _⟩
 have S := S.ownNew hf ho
 clear rx ry hI hg0 hg1
 obtain ⟨B, d, rfl⟩ := S.sl
 refine ⟨⟨st_rd1 (off := 0) S.p1, st_rd1 (off := 1) S.p1⟩, ?_⟩
 (try simp (disch := first|omega|assumption|exact l_a rfl) only [go_sem, ↓wBk, simprocAttr])
 (refine tA S ?_; clear S; intro p h S; (try simp only [sC, sN, l_h, l_i, Nat.zero_add, Nat.reduceAdd, l_j, l_k] at S); ((try clear F); have F := S.all; (try simp only [aC, aN, yC, and_true] at F)))
 (try simp (disch := first|omega|assumption|exact l_a rfl) only [go_sem, ↓wBk, simprocAttr])
 exact hK _ _ ⟨p, rfl, St.obx.2 ⟨_, (St.obx.2 ⟨_, S.p2.p3.p1⟩).p1.p2.p1⟩⟩
end
end
theorem zeros_flat {α : Type} {enc : α → List Value} (z : List Value) (x : α) (hz : enc x = z) : ∀ n, zerosL z n = (List.replicate n x).flatMap enc
 | 0 => rfl
 | n + 1 => by rw [List.replicate_succ, List.flatMap_cons, hz, ← zeros_flat z x hz n]; rfl
theorem st_make {α : Type} {enc : α → List Value} {sz T bytes : Nat} {z : List Value} {h0 h : Heap} {l : List HP} {K : Value → Heap → Prop} {s : Tag h} {t : Tag K} {n : Nat} (x : α) (hsz : ∀ x, (enc x).length = sz) (hz : enc x = z) (S : St h0 h l) (hn : n < 9223372036854775808) (hb : n * bytes ≤ 281474976710656)
  (hk : ∀ v h', St h0 h' (ownA enc sz T v (List.replicate n x) :: l) → K v h') : mkT T bytes z (.int .i64 n) (.int .i64 n) h K s t := by
 refine ⟨⟨by omega, Int.le_refl _, by omega, by rw [← Int.natCast_mul]; exact Int.ofNat_le.2 hb⟩, ?_⟩
 rw [l_ap, zeros_flat z x hz]
 refine hk _ _ (S.ownNew ((Fr.refl _ _).push _) (.inr ⟨h.size, n, [], by rw [l_ah], Nat.le_refl _, by rw [l_ah]; exact Nat.le_refl _, hn, ?_, ?_⟩))
 ·rw [l_am]
  exact blk_push_new rfl
 ·rw [l_am, fL hsz, l_ah]
def outA (o : Nat) (bs : List UInt8) (bad : Bool) : HP := exA fun s => starsA [cellA o [s, .bool bad] 136, ownA bEnc 1 5 s bs]
theorem outA_open {h0 h : Heap} {l : List HP} {o : Nat} {bs : List UInt8} {bad : Bool} : St h0 h (outA o bs bad :: l) ↔ ∃ s, St h0 h (cellA o [s, .bool bad] 136 :: ownA bEnc 1 5 s bs :: l) :=
 St.ex.trans (exists_congr fun _ => St.stars)
theorem number_ok (v : Int) (n : Nat) {h0 h : Heap} {l : List HP} {o : Nat} {bs : List UInt8} {bad : Bool} (S : St h0 h (outA o bs bad :: l)) (hv : 0 ≤ v ∧ v < 18446744073709551616) (hn : n ≤ 8) (hl : bs.length < 1000000) :
  CallsH Tryz.prog 138 [.pointer (some ⟨o, 0, none⟩), .int .u64 v, .int .i64 n] h fun r h' => St h0 h' (outA o (bs ++ le n v) bad :: l) := by
 (refine eK c_codec_Out_number (l_a rfl) fun K hK => ?_; (try simp (disch := first|omega|assumption|exact l_a rfl) only [go_sem, ↓wBk, simprocAttr, ir_codec_Out_number]))
 refine lI (fun ρ h' => ρ 0 = .pointer (some ⟨o, 0, none⟩) ∧ ρ 6 = .int .i64 n ∧ ∃ i : Nat, ρ 7 = .int .i64 i ∧ i ≤ n ∧ ρ 1 = .int .u64 (v / 256 ^ i) ∧ St h0 h' (outA o (bs ++ le i v) bad :: l)) (fun ρ _ => n - (iv (ρ 7)).toNat) ?_ ?_
 ·(try simp (disch := first|omega|assumption|exact l_a rfl) only [go_sem, ↓wBk, simprocAttr])
  refine ⟨0, rfl, Nat.zero_le _, ?_, ?_⟩
  ·simp
  ·simpa [le] using S
 ·clear S
  rintro ρ h J hJ ⟨e0, e6, i, e7, hi, e1, S⟩
  obtain ⟨s, S⟩ := outA_open.1 S
  obtain ⟨A, c, rfl⟩ := S.p1.sl
  ((try clear F); have F := S.all; (try simp only [aC, aN, yC, and_true] at F))
  (try simp (disch := first|omega|assumption|exact l_a rfl) only [go_sem, ↓wBk, simprocAttr, e7, e6])
  refine cD (fun hg => ?_) (fun hg => ?_)
  ·have hp : (0 : Int) < 256 ^ i := Int.pow_pos (by decide)
   have h1 : 0 ≤ v / 256 ^ i := Int.ediv_nonneg hv.1 (Int.le_of_lt hp)
   have h2 : v / 256 ^ i ≤ v := Int.ediv_le_self _ hv.1
   (try simp (disch := first|omega|assumption|exact l_a rfl) only [go_sem, ↓wBk, simprocAttr, e0, e1, e7, F, wrap_u8B])
   (refine tA S ?_; clear S; intro b h S; (try simp only [sC, sN, l_h, l_i, Nat.zero_add, Nat.reduceAdd, l_j, l_k] at S); ((try clear F); have F := S.all; (try simp only [aC, aN, yC, and_true] at F)))
   (try simp (disch := first|omega|assumption|exact l_a rfl) only [go_sem, ↓wBk, simprocAttr, e0, e1, e7, F])
   refine tA1 (bytes := 1) (x := B8 (v / 256 ^ i)) bEnc_len (by omega) bEnc_plain rfl rfl (S.p2.p1) (by simp [le_length]; omega) (by simp [le_length]; omega) ?_
   clear S F
   intro v' h S
   obtain ⟨A', c', rfl⟩ := S.sl
   ((try clear F); have F := S.all; (try simp only [aC, aN, yC, and_true] at F))
   (try simp (disch := first|omega|assumption|exact l_a rfl) only [go_sem, ↓wBk, simprocAttr, e0, e1, e7, F])
   (refine tS (by first | exact S | exact S.p1 | exact S.p2 | exact S.p3 | exact S.p4 | exact S.p5 | exact S.p6 | exact S.p7 | exact S.p8 | exact S.p9 | exact S.p10 | exact S.p11) (by rfl) (by rfl) (l_a rfl) ?_; clear S; intro h S; (try simp only [sC, sN, l_h, l_i, Nat.zero_add, Nat.reduceAdd, l_j, l_k] at S); ((try clear F); have F := S.all; (try simp only [aC, aN, yC, and_true] at F)))
   have e : v / 256 ^ i / 256 = v / 256 ^ (i + 1) := by rw [Int.pow_succ, Int.ediv_ediv_of_nonneg (Int.le_of_lt hp)]
   (try simp (disch := first|omega|assumption|exact l_a rfl) only [go_sem, ↓wBk, simprocAttr, e0, e1, e7, F])
   refine hJ _ _ ?_ ?_
   ·(try simp (disch := first|omega|assumption|exact l_a rfl) only [go_sem, ↓wBk, simprocAttr, e0, e6, e7])
    refine ⟨i + 1, rfl, by omega, ?_, ?_⟩
    ·rw [← e, ← shr8]
    ·have S := outA_open.2 ⟨_, S⟩
     rwa [l_q, ← le_succ] at S
   ·(try simp (disch := first|omega|assumption|exact l_a rfl) only [go_sem, ↓wBk, simprocAttr, e7])
    omega
  ·(try simp (disch := first|omega|assumption|exact l_a rfl) only [go_sem, ↓wBk, simprocAttr])
   obtain rfl : i = n := by omega
   exact hK _ _ (outA_open.2 ⟨_, S⟩)
def putBad (n : Nat) (v : Int) (bad : Bool) : Bool := bad || decide (¬ (0 ≤ v ∧ v < 256 ^ n))
def putBs (n : Nat) (v : Int) (bs : List UInt8) (bad : Bool) : List UInt8 := if putBad n v bad then bs else bs ++ le n v
theorem small_ok (v : Int) (n : Nat) {h0 h : Heap} {l : List HP} {o : Nat} {bs : List UInt8} {bad : Bool} (S : St h0 h (outA o bs bad :: l)) (hv : I64 v) (hn : 1 ≤ n ∧ n ≤ 4) (hl : bs.length < 1000000) :
  CallsH Tryz.prog 93 [.pointer (some ⟨o, 0, none⟩), .int .i64 v, .int .i64 n] h fun r h' => St h0 h' (outA o (putBs n v bs bad) (putBad n v bad) :: l) := by
 obtain ⟨hv1, hv2⟩ := hv
 have hw : IntKind.i64.wrap (8 * n) = 8 * n := wrap_i64 (by omega) (by omega)
 have hs : v.fdiv (2 ^ (min (8 * (n : Int)).toNat 64)) = v / 256 ^ n := by
  rw [← shr_256, show min (8 * (n : Int)).toNat 64 = 8 * n by omega]
 have h256 : (256 : Int) ^ n ≤ 256 ^ 4 := by
  obtain rfl | rfl | rfl | rfl : n = 1 ∨ n = 2 ∨ n = 3 ∨ n = 4 := by omega
  all_goals decide
 have hz := fdiv_zero_iff n v
 (refine eK c_codec_Out_small (l_a rfl) fun K hK => ?_; (try simp (disch := first|omega|assumption|exact l_a rfl) only [go_sem, ↓wBk, simprocAttr, ir_codec_Out_small]))
 obtain ⟨s, S⟩ := outA_open.1 S
 ((try clear F); have F := S.all; (try simp only [aC, aN, yC, and_true] at F))
 by_cases hr : 0 ≤ v ∧ v < 256 ^ n
 ·have hq := hz.2 hr
  have hu : IntKind.u64.wrap v = v := wrap_u64 hr.1 (by omega)
  have hpb : putBad n v bad = bad := by simp [putBad, hr]
  (try simp (disch := first|omega|assumption|exact l_a rfl) only [go_sem, ↓wBk, simprocAttr, hw, hs, hq, F, hu])
  cases bad
  ·(try simp (disch := first|omega|assumption|exact l_a rfl) only [go_sem, ↓wBk, simprocAttr, F, hu])
   refine cI (number_ok v n (outA_open.2 ⟨_, S⟩) (by omega) (by omega) hl) ?_
   intro r h' S
   (try simp (disch := first|omega|assumption|exact l_a rfl) only [go_sem, ↓wBk, simprocAttr])
   refine hK _ _ ?_
   rw [putBs, hpb]
   exact S
  ·(try simp (disch := first|omega|assumption|exact l_a rfl) only [go_sem, ↓wBk, simprocAttr, F])
   refine hK _ _ ?_
   rw [putBs, hpb]
   exact outA_open.2 ⟨_, S⟩
 ·have hq : ¬ v / 256 ^ n = 0 := fun h => hr (hz.1 h)
  have hpb : putBad n v bad = true := by simp [putBad, hr]
  by_cases h0' : v < 0
  ·(try simp (disch := first|omega|assumption|exact l_a rfl) only [go_sem, ↓wBk, simprocAttr, hw, hs, hq, F, h0'])
   (refine tS (by first | exact S | exact S.p1 | exact S.p2 | exact S.p3 | exact S.p4 | exact S.p5 | exact S.p6 | exact S.p7 | exact S.p8 | exact S.p9 | exact S.p10 | exact S.p11) (by rfl) (by rfl) (l_a rfl) ?_; clear S; intro h S; (try simp only [sC, sN, l_h, l_i, Nat.zero_add, Nat.reduceAdd, l_j, l_k] at S); ((try clear F); have F := S.all; (try simp only [aC, aN, yC, and_true] at F)))
   (try simp (disch := first|omega|assumption|exact l_a rfl) only [go_sem, ↓wBk, simprocAttr, F])
   refine hK _ _ ?_
   rw [putBs, hpb]
   exact outA_open.2 ⟨_, S⟩
  ·(try simp (disch := first|omega|assumption|exact l_a rfl) only [go_sem, ↓wBk, simprocAttr, hw, hs, hq, F, h0'])
   (refine tS (by first | exact S | exact S.p1 | exact S.p2 | exact S.p3 | exact S.p4 | exact S.p5 | exact S.p6 | exact S.p7 | exact S.p8 | exact S.p9 | exact S.p10 | exact S.p11) (by rfl) (by rfl) (l_a rfl) ?_; clear S; intro h S; (try simp only [sC, sN, l_h, l_i, Nat.zero_add, Nat.reduceAdd, l_j, l_k] at S); ((try clear F); have F := S.all; (try simp only [aC, aN, yC, and_true] at F)))
   (try simp (disch := first|omega|assumption|exact l_a rfl) only [go_sem, ↓wBk, simprocAttr, F])
   refine hK _ _ ?_
   rw [putBs, hpb]
   exact outA_open.2 ⟨_, S⟩
theorem U8_ok (v : Int) {h0 h : Heap} {l : List HP} {o : Nat} {bs : List UInt8} {bad : Bool} (S : St h0 h (outA o bs bad :: l)) (hv : I64 v) (hl : bs.length < 1000000) :
  CallsH Tryz.prog 57 [.pointer (some ⟨o, 0, none⟩), .int .i64 v] h fun r h' => St h0 h' (outA o (putBs 1 v bs bad) (putBad 1 v bad) :: l) := by
 (refine eK c_codec_Out_U8 (l_a rfl) fun K hK => ?_; (try simp (disch := first|omega|assumption|exact l_a rfl) only [go_sem, ↓wBk, simprocAttr, ir_codec_Out_U8]))
 refine cI (small_ok v 1 S hv (by omega) hl) fun r h' S => ?_
 (try simp (disch := first|omega|assumption|exact l_a rfl) only [go_sem, ↓wBk, simprocAttr])
 exact hK _ _ S
theorem U16_ok (v : Int) {h0 h : Heap} {l : List HP} {o : Nat} {bs : List UInt8} {bad : Bool} (S : St h0 h (outA o bs bad :: l)) (hv : I64 v) (hl : bs.length < 1000000) :
  CallsH Tryz.prog 58 [.pointer (some ⟨o, 0, none⟩), .int .i64 v] h fun r h' => St h0 h' (outA o (putBs 2 v bs bad) (putBad 2 v bad) :: l) := by
 (refine eK c_codec_Out_U16 (l_a rfl) fun K hK => ?_; (try simp (disch := first|omega|assumption|exact l_a rfl) only [go_sem, ↓wBk, simprocAttr, ir_codec_Out_U16]))
 refine cI (small_ok v 2 S hv (by omega) hl) fun r h' S => ?_
 (try simp (disch := first|omega|assumption|exact l_a rfl) only [go_sem, ↓wBk, simprocAttr])
 exact hK _ _ S
theorem U32_ok (v : Int) {h0 h : Heap} {l : List HP} {o : Nat} {bs : List UInt8} {bad : Bool} (S : St h0 h (outA o bs bad :: l)) (hv : I64 v) (hl : bs.length < 1000000) :
  CallsH Tryz.prog 60 [.pointer (some ⟨o, 0, none⟩), .int .i64 v] h fun r h' => St h0 h' (outA o (putBs 4 v bs bad) (putBad 4 v bad) :: l) := by
 (refine eK c_codec_Out_U32 (l_a rfl) fun K hK => ?_; (try simp (disch := first|omega|assumption|exact l_a rfl) only [go_sem, ↓wBk, simprocAttr, ir_codec_Out_U32]))
 refine cI (small_ok v 4 S hv (by omega) hl) fun r h' S => ?_
 (try simp (disch := first|omega|assumption|exact l_a rfl) only [go_sem, ↓wBk, simprocAttr])
 exact hK _ _ S
theorem CloneB_ok {A : Option Addr} {n c : Nat} {xs : List UInt8} {h0 h : Heap} {l : List HP} (S : St h0 h l) (ha : Arr bEnc 1 h A xs) (hn : n = xs.length) (hA : A = none → xs = []) (hl : xs.length < 1000000000) :
  CallsH Tryz.prog 94 [.slice A n c] h fun v h' => St h0 h' (ownA bEnc 1 5 v xs :: l) ∧ Fr h h' [] :=
 (clone_ok (T := 5) (sz := 1) (bytes := 1) c_slices_Clone_byte_byte bEnc_len (by omega) bEnc_plain rfl ha hn hA (by omega) (by omega)).mono fun v h' ⟨ho, hf, _⟩ => ⟨S.ownNew hf ho, hf⟩
theorem ownNilA {enc : UInt8 → List Value} {sz T base : Nat} {h : Heap} {A : Option Addr} {n c : Nat} {xs : List UInt8} (ho : Own enc sz T base h (.slice A n c) xs) : A = none → xs = [] := by
 rintro rfl
 rcases ho with ⟨hv, rfl⟩ | ⟨b, cap, cs, hv, _⟩
 ·rfl
 ·cases hv
theorem End_ok {h0 h : Heap} {l : List HP} {o : Nat} {bs : List UInt8} {bad : Bool} (S : St h0 h (outA o bs bad :: l)) (hl : bs.length < 1000000) :
  CallsH Tryz.prog 61 [.pointer (some ⟨o, 0, none⟩)] h fun r h' => ∃ v, r = .tuple #[v, .int .i64 (if bad then 2 else 0)] ∧ St h0 h' (ownA bEnc 1 5 v (if bad then [] else bs) :: outA o bs bad :: l) := by
 (refine eK c_codec_Out_End (l_a rfl) fun K hK => ?_; (try simp (disch := first|omega|assumption|exact l_a rfl) only [go_sem, ↓wBk, simprocAttr, ir_codec_Out_End]))
 obtain ⟨s, S⟩ := outA_open.1 S
 obtain ⟨B, d, rfl⟩ := S.p1.sl
 ((try clear F); have F := S.all; (try simp only [aC, aN, yC, and_true] at F))
 (try simp (disch := first|omega|assumption|exact l_a rfl) only [go_sem, ↓wBk, simprocAttr, F])
 cases bad
 ·(try simp (disch := first|omega|assumption|exact l_a rfl) only [go_sem, ↓wBk, simprocAttr, F])
  refine cI (CloneB_ok S (S.p1.arr bEnc_len) rfl (ownNilA S.p1.own) (by omega)) ?_
  rintro v h ⟨S, _⟩
  (try simp (disch := first|omega|assumption|exact l_a rfl) only [go_sem, ↓wBk, simprocAttr])
  refine hK _ _ ⟨v, rfl, ?_⟩
  exact (outA_open.2 ⟨_, S.p2.p2⟩).swap
 ·(try simp (disch := first|omega|assumption|exact l_a rfl) only [go_sem, ↓wBk, simprocAttr, F])
  exact hK _ _ ⟨_, rfl, (outA_open.2 ⟨_, S⟩).nilS⟩
structure Pol where
 w : Int
 fin : Bool
 exc : Bool
 cre : Bool
 f0 : Int
 f1 : Int
 f2 : Int
 f3 : Int
 s0 : Int
 t0 : Int
 s1 : Int
 t1 : Int
 s2 : Int
 t2 : Int
 s3 : Int
 t3 : Int
 deriving DecidableEq, Inhabited
def Pol.enc (p : Pol) : List Value := [.int .i64 p.w, .bool p.fin, .bool p.exc, .bool p.cre, .int .i64 p.f0, .int .i64 p.f1, .int .i64 p.f2, .int .i64 p.f3, .int .i64 p.s0, .int .i64 p.t0, .int .i64 p.s1, .int .i64 p.t1, .int .i64 p.s2, .int .i64 p.t2, .int .i64 p.s3, .int .i64 p.t3]
def Pol.zero : Pol := ⟨0, false, false, false, 0, 0, 0, 0, 0, 0, 0, 0, 0, 0, 0, 0⟩
theorem Pol.enc_len (p : Pol) : p.enc.length = 16 := rfl
theorem Pol.enc_plain (p : Pol) : pC p.enc = true := rfl
def okPts (n : Int) : Prop := 0 ≤ n ∧ n ≤ 10000
def okGrade (s t : Int) : Prop := okPts s ∧ (t = 0 ∧ s = 0 ∨ 3 ≤ t ∧ t ≤ 5)
def Pol.right (p : Pol) : Prop := (okPts p.f0 ∧ okPts p.f1 ∧ okPts p.f2 ∧ okPts p.f3) ∧ (okGrade p.s0 p.t0 ∧ okGrade p.s1 p.t1 ∧ okGrade p.s2 p.t2 ∧ okGrade p.s3 p.t3) ∧ 0 ≤ p.w ∧ p.w ≤ 1000
theorem cond_decn {p : Prop} {X Y : Prop} {s : Tag X} {t : Tag Y} (hx : ¬ p → X) (hy : p → Y) : condT (.bool (!dcd p)) X Y s t := by
 by_cases h : p
 ·rw [dT h]; simp only [condT, condW, Bool.not_true, Bool.false_eq_true, if_false]; exact hy h
 ·rw [dF h]; simp only [condT, condW, Bool.not_false, if_true]; exact hx h
theorem points_ok (n : Int) (h : Heap) : CallsH Tryz.prog 153 [.int .i64 n] h fun v h' => v = .bool (dcd (okPts n)) ∧ h' = h := by
 by_cases hp : okPts n
 ·(refine eK c_table_points (l_a rfl) fun K hK => ?_; (try simp (disch := first|omega|assumption|exact l_a rfl) only [go_sem, ↓wBk, simprocAttr, ir_table_points]))
  have := hp.1
  have := hp.2
  (try simp (disch := first|omega|assumption|exact l_a rfl) only [go_sem, ↓wBk, simprocAttr])
  exact hK _ _ ⟨by rw [dT hp], rfl⟩
 ·by_cases h0 : 0 ≤ n
  ·have : ¬ n ≤ 10000 := fun h1 => hp ⟨h0, h1⟩
   (refine eK c_table_points (l_a rfl) fun K hK => ?_; (try simp (disch := first|omega|assumption|exact l_a rfl) only [go_sem, ↓wBk, simprocAttr, ir_table_points]))
   (try simp (disch := first|omega|assumption|exact l_a rfl) only [go_sem, ↓wBk, simprocAttr])
   exact hK _ _ ⟨by rw [dF hp], rfl⟩
  ·(refine eK c_table_points (l_a rfl) fun K hK => ?_; (try simp (disch := first|omega|assumption|exact l_a rfl) only [go_sem, ↓wBk, simprocAttr, ir_table_points]))
   (try simp (disch := first|omega|assumption|exact l_a rfl) only [go_sem, ↓wBk, simprocAttr, h0])
   exact hK _ _ ⟨by rw [dF hp], rfl⟩
theorem grade_ok (s t : Int) (h : Heap) : CallsH Tryz.prog 154 [.agg (List.toArray [.int .i64 s, .int .i64 t])] h fun v h' => v = .bool (dcd (okGrade s t)) ∧ Fr h h' [] := by
 have S := St.nil h
 (refine eK c_table_rightGrade (l_a rfl) fun K hK => ?_; (try simp (disch := first|omega|assumption|exact l_a rfl) only [go_sem, ↓wBk, simprocAttr, ir_table_rightGrade]))
 (refine tA S ?_; clear S; intro b h S; (try simp only [sC, sN, l_h, l_i, Nat.zero_add, Nat.reduceAdd, l_j, l_k] at S); ((try clear F); have F := S.all; (try simp only [aC, aN, yC, and_true] at F)))
 (try simp (disch := first|omega|assumption|exact l_a rfl) only [go_sem, ↓wBk, simprocAttr, F])
 refine cI (points_ok s _) ?_
 rintro _ _ ⟨rfl, rfl⟩
 by_cases hs : okPts s
 ·by_cases h1 : t = 0
  ·by_cases h2 : s = 0
   ·(try simp (disch := first|omega|assumption|exact l_a rfl) only [go_sem, ↓wBk, simprocAttr, F])
    exact hK _ _ ⟨by rw [dT]; exact ⟨hs, .inl ⟨h1, h2⟩⟩, S.fr⟩
   ·(try simp (disch := first|omega|assumption|exact l_a rfl) only [go_sem, ↓wBk, simprocAttr, F])
    exact hK _ _ ⟨by rw [dF]; rintro ⟨_, h | h⟩ <;> omega, S.fr⟩
  ·by_cases h3 : 3 ≤ t
   ·by_cases h5 : t ≤ 5
    ·(try simp (disch := first|omega|assumption|exact l_a rfl) only [go_sem, ↓wBk, simprocAttr, F])
     exact hK _ _ ⟨by rw [dT ⟨hs, .inr ⟨h3, h5⟩⟩], S.fr⟩
    ·(try simp (disch := first|omega|assumption|exact l_a rfl) only [go_sem, ↓wBk, simprocAttr, F])
     exact hK _ _ ⟨by rw [dF]; rintro ⟨_, h | h⟩ <;> omega, S.fr⟩
   ·(try simp (disch := first|omega|assumption|exact l_a rfl) only [go_sem, ↓wBk, simprocAttr, F])
    exact hK _ _ ⟨by rw [dF]; rintro ⟨_, h | h⟩ <;> omega, S.fr⟩
 ·(try simp (disch := first|omega|assumption|exact l_a rfl) only [go_sem, ↓wBk, simprocAttr, F])
  exact hK _ _ ⟨by rw [dF]; exact fun h => hs h.1, S.fr⟩
set_option maxHeartbeats 4000000 in
theorem right_ok (p : Pol) (h : Heap) : CallsH Tryz.prog 128 [.agg p.enc.toArray] h fun v h' => v = .bool (dcd p.right) ∧ Fr h h' [] := by
 have S := St.nil h
 (refine eK c_table_right (l_a rfl) fun K hK => ?_; (try simp (disch := first|omega|assumption|exact l_a rfl) only [go_sem, ↓wBk, simprocAttr, ir_table_right]))
 (refine tA S ?_; clear S; intro b h S; (try simp only [sC, sN, l_h, l_i, Nat.zero_add, Nat.reduceAdd, l_j, l_k] at S); ((try clear F); have F := S.all; (try simp only [aC, aN, yC, and_true] at F)))
 (try simp (disch := first|omega|assumption|exact l_a rfl) only [go_sem, ↓wBk, simprocAttr, F, Pol.enc])
 refine loop_unroll 5 ?_
 (try simp (disch := first|omega|assumption|exact l_a rfl) only [go_sem, ↓wBk, simprocAttr])
 iterate 4
  refine cI (points_ok _ _) ?_
  rintro _ _ ⟨rfl, rfl⟩
  (try simp (disch := first|omega|assumption|exact l_a rfl) only [go_sem, ↓wBk, simprocAttr])
  refine cond_decn (fun hn => by (try simp (disch := first|omega|assumption|exact l_a rfl) only [go_sem, ↓wBk, simprocAttr]); exact hK _ _ ⟨by rw [dF]; exact fun h => hn (by first | exact h.1.1 | exact h.1.2.1 | exact h.1.2.2.1 | exact h.1.2.2.2), S.fr⟩) (fun hp => ?_)
  (try simp (disch := first|omega|assumption|exact l_a rfl) only [go_sem, ↓wBk, simprocAttr])
 (try simp (disch := first|omega|assumption|exact l_a rfl) only [go_sem, ↓wBk, simprocAttr, F, Pol.enc])
 refine loop_unroll 5 ?_
 (try simp (disch := first|omega|assumption|exact l_a rfl) only [go_sem, ↓wBk, simprocAttr])
 iterate 4
  (refine tA S ?_; clear S; intro g h S; (try simp only [sC, sN, l_h, l_i, Nat.zero_add, Nat.reduceAdd, l_j, l_k] at S); ((try clear F); have F := S.all; (try simp only [aC, aN, yC, and_true] at F)))
  (try simp (disch := first|omega|assumption|exact l_a rfl) only [go_sem, ↓wBk, simprocAttr, F])
  (refine tS (by first | exact S | exact S.p1 | exact S.p2 | exact S.p3 | exact S.p4 | exact S.p5 | exact S.p6 | exact S.p7 | exact S.p8 | exact S.p9 | exact S.p10 | exact S.p11) (by rfl) (by rfl) (l_a rfl) ?_; clear S; intro h S; (try simp only [sC, sN, l_h, l_i, Nat.zero_add, Nat.reduceAdd, l_j, l_k] at S); ((try clear F); have F := S.all; (try simp only [aC, aN, yC, and_true] at F)))
  (try simp (disch := first|omega|assumption|exact l_a rfl) only [go_sem, ↓wBk, simprocAttr, F])
  refine cI (grade_ok _ _ _) ?_
  rintro _ h ⟨rfl, hf⟩
  have S := S.frame hf
  ((try clear F); have F := S.all; (try simp only [aC, aN, yC, and_true] at F))
  (try simp (disch := first|omega|assumption|exact l_a rfl) only [go_sem, ↓wBk, simprocAttr])
  refine cond_decn (fun hn => by (try simp (disch := first|omega|assumption|exact l_a rfl) only [go_sem, ↓wBk, simprocAttr]); exact hK _ _ ⟨by rw [dF]; exact fun h => hn (by first | exact h.2.1.1 | exact h.2.1.2.1 | exact h.2.1.2.2.1 | exact h.2.1.2.2.2), S.fr⟩) (fun hp => ?_)
  (try simp (disch := first|omega|assumption|exact l_a rfl) only [go_sem, ↓wBk, simprocAttr])
 (try simp (disch := first|omega|assumption|exact l_a rfl) only [go_sem, ↓wBk, simprocAttr, F, Pol.enc])
 by_cases h0 : 0 ≤ p.w
 ·by_cases h1 : p.w ≤ 1000
  ·(try simp (disch := first|omega|assumption|exact l_a rfl) only [go_sem, ↓wBk, simprocAttr, F, Pol.enc, h0, h1])
   refine hK _ _ ⟨?_, S.fr⟩
   rw [dT]
   exact ⟨⟨by assumption, by assumption, by assumption, by assumption⟩, ⟨by assumption, by assumption, by assumption, by assumption⟩, h0, h1⟩
  ·(try simp (disch := first|omega|assumption|exact l_a rfl) only [go_sem, ↓wBk, simprocAttr, F, Pol.enc, h0, h1])
   exact hK _ _ ⟨by rw [dF]; exact fun h => h1 h.2.2.2, S.fr⟩
 ·(try simp (disch := first|omega|assumption|exact l_a rfl) only [go_sem, ↓wBk, simprocAttr, F, Pol.enc, h0])
  exact hK _ _ ⟨by rw [dF]; exact fun h => h0 h.2.2.1, S.fr⟩
theorem rightAsk {h : Heap} : Asks Tryz.prog Pol.enc h [] (.func (.func 127) #[] (List.toArray [])) fun p => !dcd p.right := by
 refine ⟨_, _, rfl, ok_table_Right_1, fun x h hf => ?_⟩
 have S := St.nil h
 (refine eK c_table_Right_1 (l_a rfl) fun K hK => ?_; (try simp (disch := first|omega|assumption|exact l_a rfl) only [go_sem, ↓wBk, simprocAttr, ir_table_Right_1]))
 (refine tA S ?_; clear S; intro b h S; (try simp only [sC, sN, l_h, l_i, Nat.zero_add, Nat.reduceAdd, l_j, l_k] at S); ((try clear F); have F := S.all; (try simp only [aC, aN, yC, and_true] at F)))
 (try simp (disch := first|omega|assumption|exact l_a rfl) only [go_sem, ↓wBk, simprocAttr, F, Pol.enc])
 refine cI (right_ok x _) ?_
 rintro _ h ⟨rfl, hf⟩
 (try simp (disch := first|omega|assumption|exact l_a rfl) only [go_sem, ↓wBk, simprocAttr])
 exact hK _ _ ⟨rfl, (S.frame hf).fr⟩
def RightT (l : List Pol) : Prop := l.length ≤ 16 ∧ ∀ p ∈ l, p.right
theorem ContainsP_ok {h : Heap} {A : Option Addr} {n c : Nat} {xs : List Pol} (ha : Arr Pol.enc 16 h A xs) (hn : n = xs.length) (hl : xs.length < 1000000) :
  CallsH Tryz.prog 126 [.slice A n c, .func (.func 127) #[] (List.toArray [])] h fun v h' => v = .bool (dcd (∃ p ∈ xs, ¬ p.right)) ∧ Fr h h' [] := by
 subst hn
 (refine eK c_slices_ContainsFunc_api_Policy_api_Policy (l_a rfl) fun K hK => ?_; (try simp (disch := first|omega|assumption|exact l_a rfl) only [go_sem, ↓wBk, simprocAttr, ir_slices_ContainsFunc_api_Policy_api_Policy]))
 refine cI (indexFunc_ok (sz := 16) (p := fun m : Pol => !dcd m.right) c_slices_IndexFunc_api_Policy_api_Policy ha rfl (by omega) rightAsk) ?_
 rintro _ h1 ⟨rfl, hf⟩
 rcases idxOf_spec (fun m : Pol => !dcd m.right) xs 0 with ⟨hx, hall⟩ | ⟨i, hx, hil, hbef, hat⟩
 ·have hx : idxOf (fun m : Pol => !dcd m.right) xs 0 = -1 := hx
  (try simp (disch := first|omega|assumption|exact l_a rfl) only [go_sem, ↓wBk, simprocAttr, hx])
  refine hK _ _ ⟨?_, hf⟩
  rw [dF]
  rintro ⟨p, hp, hn⟩
  have := hall p hp
  rw [dF hn] at this
  cases this
 ·have hx : idxOf (fun m : Pol => !dcd m.right) xs 0 = (i : Int) := by simpa using hx
  (try simp (disch := first|omega|assumption|exact l_a rfl) only [go_sem, ↓wBk, simprocAttr, hx])
  refine hK _ _ ⟨?_, hf⟩
  have := hat xs[i] (l_r hil)
  rw [dT]
  refine ⟨xs[i], l_v hil, fun hr => ?_⟩
  rw [dT hr] at this
  cases this
theorem Right_ok {h : Heap} {A : Option Addr} {n c : Nat} {xs : List Pol} (ha : Arr Pol.enc 16 h A xs) (hn : n = xs.length) (hl : xs.length < 1000000) :
  CallsH Tryz.prog 87 [.slice A n c] h fun v h' => v = .bool (dcd (RightT xs)) ∧ Fr h h' [] := by
 subst hn
 (refine eK c_table_Right (l_a rfl) fun K hK => ?_; (try simp (disch := first|omega|assumption|exact l_a rfl) only [go_sem, ↓wBk, simprocAttr, ir_table_Right]))
 by_cases h16 : xs.length ≤ 16
 ·(try simp (disch := first|omega|assumption|exact l_a rfl) only [go_sem, ↓wBk, simprocAttr, h16])
  refine cI (ContainsP_ok ha rfl hl) ?_
  rintro _ h1 ⟨rfl, hf⟩
  (try simp (disch := first|omega|assumption|exact l_a rfl) only [go_sem, ↓wBk, simprocAttr])
  refine hK _ _ ⟨?_, hf⟩
  by_cases hr : RightT xs
  ·rw [dT hr, dF]
   ·rfl
   ·rintro ⟨p, hp, hn⟩; exact hn (hr.2 p hp)
  ·rw [dF hr, dT]
   ·rfl
   ·apply Classical.byContradiction
    intro hn
    exact hr ⟨h16, fun p hp => Classical.byContradiction fun h => hn ⟨p, hp, h⟩⟩
 ·(try simp (disch := first|omega|assumption|exact l_a rfl) only [go_sem, ↓wBk, simprocAttr, h16])
  exact hK _ _ ⟨by rw [dF]; exact fun h => h16 h.1, Fr.refl _ _⟩
def flagsOf (p : Pol) : Int := (if p.fin then 1 else 0) + (if p.exc then 2 else 0) + (if p.cre then 4 else 0)
def Pol.bytes (p : Pol) : List UInt8 := le 2 p.w ++ (le 1 (flagsOf p) ++ (le 2 p.f0 ++ (le 2 p.f1 ++ (le 2 p.f2 ++ (le 2 p.f3 ++ (le 2 p.s0 ++ (le 1 p.t0 ++ (le 2 p.s1 ++ (le 1 p.t1 ++ (le 2 p.s2 ++ (le 1 p.t2 ++ (le 2 p.s3 ++ le 1 p.t3))))))))))))
def encT (l : List Pol) : List UInt8 := le 2 l.length ++ l.flatMap Pol.bytes
end Go.Proofs.YtijnkebgciaieaaGreat.MX
