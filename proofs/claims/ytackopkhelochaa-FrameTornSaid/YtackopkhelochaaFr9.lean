/- Lists of bytes are alike (law03.Lists); the reference's frames. -/
import Derived.Test.YtackopkhelochaaFr6
import Derived.Test.YtackopkhelochaaFr7
import Derived.Test.YtackopkhelochaaBy3
namespace Go.Proofs.Ytackopkhelochaa.MX
open Go Go.Proofs
set_option linter.unusedSimpArgs false
set_option linter.unusedVariables false
set_option maxRecDepth 100000

/-- A slice of byte slices that can be read. -/
structure RL (h : Heap) (A : Option Addr) (zs : List Bz) : Prop where
  arr : Arr Bz.enc 1 h A zs
  ys : ∀ z ∈ zs, Arr bEnc 1 h z.A z.ys
theorem RL.fr {h h' : Heap} {A : Option Addr} {zs : List Bz} (r : RL h A zs) (hf : Fr h h' []) : RL h' A zs := ⟨r.arr.fr hf (by simp), fun z hz => (r.ys z hz).fr hf (by simp)⟩
theorem RL.take {h : Heap} {A : Option Addr} {zs : List Bz} (r : RL h A zs) (n : Nat) : RL h A (zs.take n) := by
  refine ⟨fun i hi => ?_, fun z hz => r.ys z (List.mem_of_mem_take hz)⟩
  obtain ⟨b, off, h1, h2⟩ := r.arr i (by simp at hi; omega)
  exact ⟨b, off, h1, by rw [h2, List.getElem_take]⟩
theorem rl_of {h0 h : Heap} {l : List HP} {A : Option Addr} {n c : Nat} {xs : List (List UInt8)} (S : St h0 h (lsA (.slice A n c) xs :: l)) : ∃ zs : List Bz, zs.map Bz.ys = xs ∧ n = zs.length ∧ RL h A zs := by
  obtain ⟨zs, hz, S⟩ := lsA_open.1 S
  have ha := S.own.arr bz_len
  refine ⟨zs, hz, ha.2.1, ha.1, fun z hz => ?_⟩
  obtain ⟨B, _, ho⟩ := row_says S.tl z hz
  exact (ho.arr bEnc_len).1
theorem lsA_sl {h0 h : Heap} {l : List HP} {s : Value} {xs : List (List UInt8)} (S : St h0 h (lsA s xs :: l)) : ∃ A c, s = .slice A xs.length c := by
  obtain ⟨zs, hz, S⟩ := lsA_open.1 S
  obtain ⟨A, c, rfl⟩ := S.sl
  exact ⟨A, c, by rw [← hz, List.length_map]⟩

theorem lsA_cap {h0 h : Heap} {l : List HP} {A : Option Addr} {n c : Nat} {xs : List (List UInt8)} (S : St h0 h (lsA (.slice A n c) xs :: l)) : n = xs.length ∧ n ≤ c ∧ c < 9223372036854775808 := by
  obtain ⟨zs, hz, S⟩ := lsA_open.1 S
  rw [← hz, List.length_map]
  exact S.cap
/-- One more byte slice behind a list of them. -/
theorem ls_append {h0 h : Heap} {l : List HP} {q e T' : Nat} {B : Option Addr} {x : List UInt8} {sl : Value} {xs : List (List UInt8)} {K : Value → Heap → Prop} {s : Tag h} {t : Tag K}
    (S : St h0 h (cellA q [.slice B x.length e] T' :: lsA sl xs :: ownA bEnc 1 5 (.slice B x.length e) x :: l)) (hx : xs.length ≤ 100000000)
    (hk : ∀ v' h', St h0 h' (lsA v' (xs ++ [x]) :: l) → K v' h') : appT 22 1 24 [.slice none 0 0] sl (.slice (some ⟨q, 0, none⟩) 1 1) h K s t := by
  obtain ⟨zs, hz, S⟩ := lsA_open.1 S.p1
  have S := S.perm (List.perm_middle (l₁ := _ :: zs.map bRow))
  have hzl : zs.length = xs.length := by rw [← hz, List.length_map]
  refine st_append1 (bytes := 24) (x := (⟨B, e, x⟩ : Bz)) bz_len (by omega) bz_plain rfl rfl S (by omega) (by omega) ?_
  intro v' h' S
  exact hk v' h' (lsA_open.2 ⟨zs ++ [⟨B, e, x⟩], by rw [List.map_append, hz]; rfl, by rw [List.map_append, List.append_assoc]; exact S⟩)

theorem Lists_ok {h : Heap} {A B : Option Addr} {zs ws : List Bz} {c d : Nat} (ha : RL h A zs) (hb : RL h B ws) (hz : ∀ z ∈ zs, z.ys.length < 1000000000) (hw : ∀ z ∈ ws, z.ys.length < 1000000000) (hl : zs.length < 1000000000) (hl2 : ws.length < 9223372036854775808) :
    CallsH Try.prog 37 [.slice A zs.length c, .slice B ws.length d] h fun v h' => v = .bool (dcd (zs.map Bz.ys = ws.map Bz.ys)) ∧ h' = h := by
  by_cases hlen : zs.length = ws.length
  case neg =>
    have hne : ¬ (zs.map Bz.ys = ws.map Bz.ys) := fun h => hlen (by simpa using congrArg List.length h)
    (refine enterK c_recouplaw03_Lists (Nat.le_of_ble_eq_true rfl) fun K hK => ?_; (try simp (maxSteps := 1000000) (disch := first | omega | assumption | exact Nat.le_of_ble_eq_true rfl) only [go_sem, ↓mwp_block, simprocAttr, ir_recouplaw03_Lists]))
    exact hK _ _ ⟨by rw [dcd_false hne], rfl⟩
  (refine enterK c_recouplaw03_Lists (Nat.le_of_ble_eq_true rfl) fun K hK => ?_; (try simp (maxSteps := 1000000) (disch := first | omega | assumption | exact Nat.le_of_ble_eq_true rfl) only [go_sem, ↓mwp_block, simprocAttr, ir_recouplaw03_Lists]))
  refine loop_intro (fun ρ h' => h' = h ∧ ρ 0 = .slice A zs.length c ∧ ρ 1 = .slice B ws.length d ∧ ρ 12 = .int .i64 zs.length ∧ ∃ i : Nat, ρ 13 = .int .i64 i ∧ i ≤ zs.length ∧ (zs.take i).map Bz.ys = (ws.take i).map Bz.ys) (fun ρ _ => zs.length - (iv (ρ 13)).toNat) ?_ ?_
  · (try simp (maxSteps := 1000000) (disch := first | omega | assumption | exact Nat.le_of_ble_eq_true rfl) only [go_sem, ↓mwp_block, simprocAttr])
    exact ⟨0, rfl, by omega, rfl⟩
  · rintro ρ h' J hJ ⟨rfl, e0, e1, e12, i, e13, hi, hpre⟩
    (try simp (maxSteps := 1000000) (disch := first | omega | assumption | exact Nat.le_of_ble_eq_true rfl) only [go_sem, ↓mwp_block, simprocAttr, e12, e13])
    refine cond_dec (fun hg => ?_) (fun hg => ?_)
    · have hi1 : i < zs.length := by omega
      have hi2 : i < ws.length := by omega
      obtain ⟨b1, o1, rfl, r1⟩ := ha.arr.at hi1
      obtain ⟨b2, o2, rfl, r2⟩ := hb.arr.at hi2
      have y1 := ha.ys _ (List.getElem_mem hi1)
      have y2 := hb.ys _ (List.getElem_mem hi2)
      have l1 := hz _ (List.getElem_mem hi1)
      have l2 := hw _ (List.getElem_mem hi2)
      have t1 := List.take_succ_eq_append_getElem hi1
      have t2 := List.take_succ_eq_append_getElem hi2
      have hget : zs.map Bz.ys = ws.map Bz.ys → (zs[i]).ys = (ws[i]).ys := fun h => by
        have := congrArg (·[i]?) h
        simpa [List.getElem?_eq_getElem hi1, List.getElem?_eq_getElem hi2] using this
      generalize zs[i] = z at r1 y1 l1 t1 hget
      generalize ws[i] = w at r2 y2 l2 t2 hget
      have p1 := rd1_part (k := 0) r1
      have p2 := rd1_part (k := 0) r2
      simp only [Bz.enc, Nat.add_zero, List.getElem?_cons_zero, Nat.mul_one] at p1 p2
      (try simp (maxSteps := 1000000) (disch := first | omega | assumption | exact Nat.le_of_ble_eq_true rfl) only [go_sem, ↓mwp_block, simprocAttr, e0, e1, e13])
      refine draw_eq ?_
      (try simp (maxSteps := 1000000) (disch := first | omega | assumption | exact Nat.le_of_ble_eq_true rfl) only [go_sem, ↓mwp_block, simprocAttr, e0, e1, e13, p1, p2, Nat.mul_one])
      refine call_intro (Bytes_ok y1 y2 l1 l2) ?_
      rintro _ _ ⟨rfl, rfl⟩
      by_cases hy : z.ys = w.ys
      · (try simp (maxSteps := 1000000) (disch := first | omega | assumption | exact Nat.le_of_ble_eq_true rfl) only [go_sem, ↓mwp_block, simprocAttr, hy, e13])
        refine hJ _ _ ?_ ?_
        · (try simp (maxSteps := 1000000) (disch := first | omega | assumption | exact Nat.le_of_ble_eq_true rfl) only [go_sem, ↓mwp_block, simprocAttr, e0, e1, e12, e13])
          exact ⟨i + 1, rfl, by omega, by rw [t1, t2, List.map_append, List.map_append, hpre, List.map_cons, List.map_cons, hy]⟩
        · (try simp (maxSteps := 1000000) (disch := first | omega | assumption | exact Nat.le_of_ble_eq_true rfl) only [go_sem, ↓mwp_block, simprocAttr, e13])
          omega
      · (try simp (maxSteps := 1000000) (disch := first | omega | assumption | exact Nat.le_of_ble_eq_true rfl) only [go_sem, ↓mwp_block, simprocAttr])
        exact hK _ _ ⟨by rw [dcd_false fun h => hy (hget h)], rfl⟩
    · obtain rfl : i = zs.length := by omega
      (try simp (maxSteps := 1000000) (disch := first | omega | assumption | exact Nat.le_of_ble_eq_true rfl) only [go_sem, ↓mwp_block, simprocAttr])
      rw [List.take_length, hlen, List.take_length] at hpre
      exact hK _ _ ⟨by rw [dcd_true hpre], rfl⟩
end Go.Proofs.Ytackopkhelochaa.MX
