/- Texts in one file: Lt2, Lv1, Lv2. -/
import Derived.Test.YtnjjdpeglkiifaaK23
import Derived.Test.YtnjjdpeglkiifaaK24
import Derived.Test.YtnjjdpeglkiifaaK19
import Derived.Test.YtnjjdpeglkiifaaK20

/- The law LogStays: what holds between two acts. -/
namespace Go.Proofs.Ytnjjdpeglkiifaa.MX
open Go Go.Proofs
set_option linter.unusedSimpArgs false
set_option linter.unusedVariables false
set_option maxHeartbeats 4000000
/-- Slices of records that were made, and stay. -/
def hA (x : Value × List Bz) : HP := ownA Bz.enc 1 23 x.1 x.2
/-- An image, out of the arguments. -/
def Img (h0 : Heap) (W : Value) (bs : List UInt8) : Prop := ∃ A c, W = .slice A bs.length c ∧ Arr bEnc 1 h0 A bs ∧ bs.length < 1000000
/-- Records, out of the arguments, in a slice that stays. -/
def Rcs (h0 : Heap) (F : List (Value × List Bz)) (R : Value) (xs : List (List UInt8)) : Prop := ∃ zs, (R, zs) ∈ F ∧ zs.map Bz.ys = xs ∧ zs.length < 1000000 ∧ ∀ z ∈ zs, Arr bEnc 1 h0 z.A z.ys ∧ z.ys.length < 1000000000
theorem Rcs.mono {h0 : Heap} {F G : List (Value × List Bz)} {R : Value} {xs : List (List UInt8)} (h : Rcs h0 F R xs) (hs : ∀ x ∈ F, x ∈ G) : Rcs h0 G R xs := by
  obtain ⟨zs, h1, h2⟩ := h
  exact ⟨zs, hs _ h1, h2⟩
theorem Rcs.rl {h0 h : Heap} {F : List (Value × List Bz)} {R : Value} {xs : List (List UInt8)} {L l : List HP} (r : Rcs h0 F R xs) (S : St h0 h (L ++ (F.map hA ++ l))) :
    ∃ A c zs, R = .slice A zs.length c ∧ zs.map Bz.ys = xs ∧ zs.length < 1000000 ∧ (∀ z ∈ zs, Arr bEnc 1 h0 z.A z.ys ∧ z.ys.length < 1000000000) ∧ (R, zs) ∈ F ∧ ∀ h' (L' l' : List HP), St h0 h' (L' ++ (F.map hA ++ l')) → RL h' A zs := by
  obtain ⟨zs, h1, h2, h3, h4⟩ := r
  have hs := row_says (St.dropL S) _ h1
  obtain ⟨B, _, ho⟩ := hs
  have ho : Own Bz.enc 1 23 0 h R zs := ho
  obtain ⟨A, c, rfl⟩ := ho.slice
  refine ⟨A, c, zs, rfl, h2, h3, h4, h1, fun h' L' l' S' => ⟨?_, fun z hz => (h4 z hz).1.fr S'.fr (by simp)⟩⟩
  obtain ⟨B', _, ho'⟩ := row_says (St.dropL S') _ h1
  exact (ho'.arr bz_len).1
structure Now (h0 : Heap) (F : List (Value × List Bz)) (D : Dk) (L : Lg) (W R N M : Value) (A B : List UInt8 × List (List UInt8)) : Prop where
  ok : D.ok
  wf : L.wf
  few : L.recs.length < 1000000
  was : Img h0 W A.1
  recs : Rcs h0 F R A.2
  next : Img h0 N B.1
  more : Rcs h0 F M B.2
  reach : Reach D A B
  same : D.lost = L.over
  live : L.over = false → Keeps D L ∧ (L.img, L.recs) = A
theorem fuse_okM {D : Dk} (ok : D.ok) {m : Int} (h0 : 0 ≤ m) (h1 : m < 9223372036854775808) : (fuseD D m).1.ok := by
  unfold fuseD
  split
  · exact ok
  · split
    · exact ok
    · exact ⟨ok.len, ok.cap, ok.room, ⟨by simp only; omega, h1⟩, ok.safe⟩
theorem fuse_lost (D : Dk) (m : Int) : (fuseD D m).1.lost = D.lost := by unfold fuseD; split; · rfl
                                                                         split <;> rfl
theorem fuse_fs (D : Dk) (m : Int) : (fuseD D m).1.fs = D.fs ∧ (fuseD D m).1.cap = D.cap := by
  unfold fuseD
  split
  · exact ⟨rfl, rfl⟩
  · split <;> exact ⟨rfl, rfl⟩
theorem Now.fuse {h0 : Heap} {F : List (Value × List Bz)} {D : Dk} {L : Lg} {W R N M : Value} {A B : List UInt8 × List (List UInt8)} {m : Int} (n : Now h0 F D L W R N M A B) (h0' : 0 ≤ m) (h1 : m < 9223372036854775808) : Now h0 F (fuseD D m).1 L W R N M A B := by
  obtain ⟨e1, e2⟩ := fuse_fs D m
  have hfo : ∀ k, fileOf (fuseD D m).1 k = fileOf D k := fun k => by unfold fileOf; rw [e1]
  refine ⟨fuse_okM n.ok h0' h1, n.wf, n.few, n.was, n.recs, n.next, n.more, ?_, by rw [fuse_lost]; exact n.same, fun h => ?_⟩
  · intro ks hk
    have : restartD (fuseD D m).1 ks = restartD D ks := by unfold restartD; rw [e1, e2]
    rw [this]
    exact n.reach ks hk
  · obtain ⟨⟨k1, k2⟩, k3⟩ := n.live h
    exact ⟨⟨by rw [hfo]; exact k1, by rw [hfo]; exact k2⟩, k3⟩
/-- What a log is that is opened when the power comes back. -/
theorem Reach.opened {D : Dk} {A B : List UInt8 × List (List UInt8)} (ok : D.ok) (r : Reach D A B) {ks : List Int} (hk : ks.length = 8) :
    ∃ L : Lg, L.wf ∧ L.over = false ∧ L.ok ∧ ((L.img, L.recs) = A ∨ (L.img, L.recs) = B) ∧ (restartD D ks).ok ∧ findL (restartD D ks) = L ∧ (openD (restartD D ks)).ok ∧ (openD (restartD D ks)).lost = false ∧ (openD (restartD D ks)).fuse = -1 ∧ Keeps (openD (restartD D ks)) L := by
  obtain ⟨L, w, ho, ht, hab⟩ := r ks hk
  have ok1 := rest_ok ok hk
  have hL0 : ({ L with over := false } : Lg) = L := by rw [← ho]
  have hf := find_torn w ht
  rw [hL0] at hf
  obtain ⟨k1, k2, k3⟩ := open_torn w ok1.len rfl (by show ¬ ((-1 : Int) = 0); decide) ht
  exact ⟨L, w, ho, by rw [← hf]; exact find_lok _ ok1, hab, ok1, hf, openD_ok ok1, k2, k3 rfl, k1⟩
/-- Opened once more. -/
theorem Keeps.again {D : Dk} {L : Lg} (ok : D.ok) (w : L.wf) (ho : L.over = false) (hlo : D.lost = false) (hfu : D.fuse = -1) (k : Keeps D L) : findL D = L ∧ Keeps (openD D) L ∧ (openD D).lost = false := by
  have hL0 : ({ L with over := false } : Lg) = L := by rw [← ho]
  have hf := find_torn w k.torn
  rw [hL0] at hf
  obtain ⟨k1, k2, _⟩ := open_torn w ok.len hlo (by rw [hfu]; decide) k.torn
  exact ⟨hf, k1, k2⟩
theorem Keeps.lok {D : Dk} {L : Lg} (ok : D.ok) (w : L.wf) (ho : L.over = false) (k : Keeps D L) : L.ok := by
  have hL0 : ({ L with over := false } : Lg) = L := by rw [← ho]
  have hf := find_torn w k.torn
  rw [hL0] at hf
  rw [← hf]
  exact find_lok _ ok
theorem dk1_keeps {cap : Int} {img : List UInt8} (h : img.length + 4 ≤ 60000) : Keeps (dk1 cap (headF 1 img)) ⟨1, 1, img, [], false⟩ ∧ Lg.wf ⟨1, 1, img, [], false⟩ := by
  have hby : bytesOf ⟨1, 1, img, [], false⟩ = headF 1 img := by simp [bytesOf]
  refine ⟨⟨by rw [hby]; rfl, ?_⟩, ⟨.inl rfl, ⟨by show (1 : Int) ≤ 1; decide, by show (1 : Int) ≤ 2147483648; decide⟩, h, by simp⟩⟩
  intro f hf
  cases hf
end Go.Proofs.Ytnjjdpeglkiifaa.MX

/- The reference's log: Find. -/
namespace Go.Proofs.Ytnjjdpeglkiifaa.MX
open Go Go.Proofs
set_option linter.unusedSimpArgs false
set_option linter.unusedVariables false
set_option maxHeartbeats 16000000
theorem cut_dropZ {b c : Nat} {zs : List Bz} (h1 : 1 ≤ zs.length) (hc : zs.length ≤ c) (hc2 : c < 9223372036854775808) :
    ∃ A' c', cutV (some ⟨b, 0, none⟩) 1 1 zs.length c c = some (.slice A' (zs.drop 1).length c') ∧ ∀ h, RL h (some ⟨b, 0, none⟩) zs → RL h A' (zs.drop 1) := by
  have hl : ((zs.length : Int) - 1).toNat = (zs.drop 1).length := by rw [List.length_drop]; omega
  have hys : ∀ h, RL h (some ⟨b, 0, none⟩) zs → ∀ z ∈ zs.drop 1, Arr bEnc 1 h z.A z.ys := fun h r z hz => r.ys z (List.mem_of_mem_drop hz)
  unfold cutV
  rw [if_pos ⟨by omega, by omega, by omega, by omega⟩, hl]
  by_cases e : (c : Int) = 1
  · rw [if_pos e]
    have hz : zs.drop 1 = [] := by
      apply List.eq_nil_of_length_eq_zero
      rw [List.length_drop]
      omega
    refine ⟨_, _, rfl, fun h r => ⟨?_, hys h r⟩⟩
    rw [hz]
    exact Arr.nil _ _ _ _
  · rw [if_neg e]
    refine ⟨some ⟨b, 1, none⟩, ((c : Int) - 1).toNat, ?_, fun h r => ⟨?_, hys h r⟩⟩
    · simp only [Option.map_some, add_none]
      rfl
    · intro i hi
      obtain ⟨b', off, hA, hr⟩ := r.arr (1 + i) (by rw [List.length_drop] at hi; omega)
      cases hA
      refine ⟨b, 1, rfl, ?_⟩
      rw [List.getElem_drop, ← hr]
      congr 1
      omega
noncomputable def wholeL (D : Dk) (L : Lg) : Nat := if L.file = 0 then 0 else endOf (framesOf (bsF (fileOf D L.file)))
/-- What a found log's image and records are read as. -/
def Seen (h0 : Heap) (L : Lg) (iv rv : Value) (g : List HP) : Prop := ∃ A c A2 c2 zs, iv = .slice A L.img.length c ∧ rv = .slice A2 zs.length c2 ∧ zs.map Bz.ys = L.recs ∧ ∀ h2 l2, St h0 h2 (g ++ l2) → Arr bEnc 1 h2 A L.img ∧ RL h2 A2 zs
theorem seen0 (h0 : Heap) : Seen h0 lg0 (.slice none 0 0) (.slice none 0 0) [] := ⟨none, 0, none, 0, [], rfl, rfl, rfl, fun h2 l2 _ => ⟨Arr.nil _ _ _ _, Arr.nil _ _ _ _, by simp⟩⟩
theorem Own.lt63 {α : Type} {enc : α → List Value} {sz T base : Nat} {h : Heap} {A : Option Addr} {n c : Nat} {xs : List α} (ho : Own enc sz T base h (.slice A n c) xs) : c < 9223372036854775808 := by
  rcases ho with ⟨hv, _⟩ | ⟨b, cap, cs, hv, _, hle, h63, _⟩
  · injection hv with e1 e2 e3
    omega
  · injection hv with e1 e2 e3
    omega
theorem pick_none {D : Dk} {n : Int} {L : Lg} (h : framesOf (bsF (fileOf D n)) = []) : pickL D n L = L := by
  unfold pickL
  cases hf : fileOf D n with
  | none => rfl
  | some f =>
    rw [hf] at h
    simp only [bsF] at h ⊢
    have : begins f.bs = none := by
      rw [framesOf_eq] at h
      unfold begins
      cases hq : firstOf f.bs with
      | none => rfl
      | some x => rw [hq] at h; cases h
    rw [this]
theorem pick_some {D : Dk} {n : Int} {L : Lg} {x : List UInt8} {xs : List (List UInt8)} (h : framesOf (bsF (fileOf D n)) = x :: xs) : pickL D n L = if x.length < 4 then L else if num (x.take 4) ≤ L.gen then L else ⟨n, num (x.take 4), x.drop 4, xs, L.over⟩ := by
  unfold pickL
  cases hf : fileOf D n with
  | none =>
    rw [hf] at h
    simp only [bsF, framesOf_nil] at h
    cases h
  | some f =>
    rw [hf] at h
    simp only [bsF] at h ⊢
    rw [framesOf_eq] at h
    unfold begins
    cases hq : firstOf f.bs with
    | none => rw [hq] at h; cases h
    | some y =>
      rw [hq] at h
      simp only at h ⊢
      obtain ⟨h1, h2⟩ := List.cons.inj h
      subst h1
      by_cases h4 : y.length < 4
      · rw [if_pos h4, if_pos h4]
      · rw [if_neg h4, if_neg h4]
        simp only [h2]
theorem St.pull {h0 h : Heap} {g X : List HP} {a : HP} (S : St h0 h (g ++ (a :: X))) : St h0 h (a :: (g ++ X)) := S.perm List.perm_middle
theorem St.push {h0 h : Heap} {g X : List HP} {a : HP} (S : St h0 h (a :: (g ++ X))) : St h0 h (g ++ (a :: X)) := S.perm List.perm_middle.symm
theorem RFind_ok {h0 h : Heap} {l : List HP} {w : Nat} {D : Dk} (ok : D.ok) (S : St h0 h (refA w D :: l)) :
    CallsH Try.prog 53 [.pointer (some ⟨w, 0, none⟩)] h fun v h' => ∃ iv rv g, v = .agg #[.int .i64 (findL D).file, .int .i64 (findL D).gen, iv, rv, .int .i64 (wholeL D (findL D) : Nat)] ∧ Seen h0 (findL D) iv rv g ∧ St h0 h' (g ++ (refA w D :: l)) := by
  have hcap := ok.cap
  (refine enterK c_recoupref01_Find (Nat.le_of_ble_eq_true rfl) fun K hK => ?_; (try simp (maxSteps := 1000000) (disch := first | omega | assumption | exact Nat.le_of_ble_eq_true rfl) only [go_sem, ↓mwp_block, simprocAttr, ir_recoupref01_Find]))
  (refine st_alloc S ?_; clear S; intro r h S; (try simp only [splice_cons, splice_nil, List.set_cons_zero, List.set_cons_succ, Nat.zero_add, Nat.reduceAdd, List.cons_append, List.nil_append] at S); ((try clear F); have F := S.all; (try simp only [all_cons, all_nil, says_cell, and_true] at F)))
  (try simp (maxSteps := 1000000) (disch := first | omega | assumption | exact Nat.le_of_ble_eq_true rfl) only [go_sem, ↓mwp_block, simprocAttr])
  (refine st_alloc S ?_; clear S; intro q h S; (try simp only [splice_cons, splice_nil, List.set_cons_zero, List.set_cons_succ, Nat.zero_add, Nat.reduceAdd, List.cons_append, List.nil_append] at S); ((try clear F); have F := S.all; (try simp only [all_cons, all_nil, says_cell, and_true] at F)))
  (try simp (maxSteps := 1000000) (disch := first | omega | assumption | exact Nat.le_of_ble_eq_true rfl) only [go_sem, ↓mwp_block, simprocAttr])
  refine loop_intro (fun ρ h' => ρ 0 = .pointer (some ⟨w, 0, none⟩) ∧ ρ 2 = .pointer (some ⟨r, 0, none⟩) ∧ ρ 3 = .pointer (some ⟨q, 0, none⟩) ∧ ∃ (i : Nat) (iv rv : Value) (g : List HP), ρ 4 = .int .i64 ((i : Int) + 1) ∧ i ≤ 2 ∧ Seen h0 (findAt D i) iv rv g ∧
    St h0 h' (refA w D :: cellA q [.int .i64 (findAt D i).file, .int .i64 (findAt D i).gen, iv, rv, .int .i64 (wholeL D (findAt D i) : Nat)] 85 :: cellA r [.int .i64 0, .int .i64 0, .slice none 0 0, .slice none 0 0, .int .i64 0] 85 :: (g ++ l))) (fun ρ _ => (3 - iv (ρ 4)).toNat) ?_ ?_
  · (try simp (maxSteps := 1000000) (disch := first | omega | assumption | exact Nat.le_of_ble_eq_true rfl) only [go_sem, ↓mwp_block, simprocAttr])
    exact ⟨0, _, _, [], rfl, by omega, seen0 h0, S.p2⟩
  clear S F
  rintro ρ h J hJ ⟨e0, e2, e3, i, iv, rv, g, e4, hi, hseen, S⟩
  (try simp (maxSteps := 1000000) (disch := first | omega | assumption | exact Nat.le_of_ble_eq_true rfl) only [go_sem, ↓mwp_block, simprocAttr, e4])
  refine cond_dec (fun hg => ?_) (fun hg => ?_)
  case refine_2 =>
    obtain rfl : i = 2 := by omega
    ((try clear F); have F := S.all; (try simp only [all_cons, all_nil, says_cell, and_true] at F))
    (try simp (maxSteps := 1000000) (disch := first | omega | assumption | exact Nat.le_of_ble_eq_true rfl) only [go_sem, ↓mwp_block, simprocAttr, e2, e3, F])
    obtain ⟨A1, c1, A2, c2, zs, rfl, rfl, hz, hsee⟩ := hseen
    refine st_store S.p2 rfl rfl (Nat.le_of_ble_eq_true rfl) ?_
    clear S F
    intro h S
    (try simp only [splice_cons, splice_nil, List.set_cons_zero, List.set_cons_succ, Nat.zero_add, Nat.reduceAdd, List.cons_append, List.nil_append] at S)
    ((try clear F); have F := S.all; (try simp only [all_cons, all_nil, says_cell, and_true] at F))
    (try simp (maxSteps := 1000000) (disch := first | omega | assumption | exact Nat.le_of_ble_eq_true rfl) only [go_sem, ↓mwp_block, simprocAttr, F, e2])
    exact hK _ _ ⟨_, _, g, rfl, ⟨A1, c1, A2, c2, zs, rfl, rfl, hz, hsee⟩, S.tl.d1.push⟩
  have hi2 : i < 2 := by omega
  have hf1 : findAt D (i + 1) = pickL D ((i : Int) + 1) (findAt D i) := rfl
  have hgen := findAt_gen D i
  generalize findAt D i = L at *
  obtain ⟨us, hus, hus8, S1⟩ := refA_open.1 S
  have hlt : i + 1 < us.length := by omega
  have hn8 : 0 ≤ (i : Int) + 1 ∧ (i : Int) + 1 < 8 := by omega
  have htn : ((i : Int) + 1).toNat = i + 1 := by omega
  have hfo := rsnd hus hn8 (by omega)
  have hc1 := rcells_at (cap := D.cap) (fuse := D.fuse) (lost := D.lost) (k := 1) hlt (by omega)
  have hrow : ∀ {h' : Heap} {X X2 : List HP}, St h0 h' (X ++ (us.map rslotA ++ X2)) → Own bEnc 1 5 0 h' (us[i + 1]).1 (bsF (us[i + 1]).2) := fun S' => by
    obtain ⟨B, _, ho⟩ := row_says (St.dropL S') _ (List.getElem_mem hlt)
    exact ho
  have hfo : fileOf D ((i : Int) + 1) = (us[i + 1]).2 := by rw [hfo]; simp only [htn]
  have hbl : (bsF (us[i + 1]).2).length ≤ 1048576 := by
    rw [← hfo]
    cases hq : fileOf D ((i : Int) + 1) with
    | none => exact Nat.zero_le _
    | some f => exact file_le ok hq
  have hown := hrow (X := [_]) S1
  generalize us[i + 1] = z at *
  obtain ⟨v0, o⟩ := z
  simp only [rcell, List.getElem?_cons_succ, List.getElem?_cons_zero] at hc1 hfo hown hbl
  obtain ⟨Ab, cb, rfl⟩ := hown.slice
  obtain ⟨_, _, hbn⟩ := hown.arr bEnc_len
  have hb63 := hown.lt63
  have hh := st_rd1 (off := 1 + (i + 1) * 3 + 1) S1
  rw [hc1] at hh
  (try simp (maxSteps := 1000000) (disch := first | omega | assumption | exact Nat.le_of_ble_eq_true rfl) only [go_sem, ↓mwp_block, simprocAttr, e0, e4, hh, htn])
  refine call_intro (RefFrames_ok (b := bsF o) S1 (fun h' S' => ((hrow (X := [_]) S').arr bEnc_len).1) hbn hb63 (by omega)) ?_
  clear S S1 hh hown
  rintro _ h ⟨s1, s2, rfl, S⟩
  have hnext : ∀ {ρ' : Env} {h' : Heap} {iv' rv' : Value} {g' : List HP}, ρ' 0 = ρ 0 → ρ' 2 = ρ 2 → ρ' 3 = ρ 3 → ρ' 4 = .int .i64 ((i : Int) + 1 + 1) → Seen h0 (findAt D (i + 1)) iv' rv' g' →
      St h0 h' (cellA w (rcells D.cap us D.fuse D.lost) 132 :: (us.map rslotA ++ (cellA q [.int .i64 (findAt D (i + 1)).file, .int .i64 (findAt D (i + 1)).gen, iv', rv', .int .i64 (wholeL D (findAt D (i + 1)) : Nat)] 85 :: cellA r [.int .i64 0, .int .i64 0, .slice none 0 0, .slice none 0 0, .int .i64 0] 85 :: (g' ++ l)))) → J ρ' h' := by
    intro ρ' h' iv' rv' g' q0 q2 q3 q4 hs' S'
    refine hJ _ _ ?_ ?_
    · rw [q0, q2, q3]
      refine ⟨e0, e2, e3, i + 1, iv', rv', g', ?_, by omega, hs', refA_open.2 ⟨us, hus, hus8, S'⟩⟩
      rw [q4]
      congr 1
    · (try simp (maxSteps := 1000000) (disch := first | omega | assumption | exact Nat.le_of_ble_eq_true rfl) only [go_sem, ↓mwp_block, simprocAttr, q4, e4])
      omega
  clear hJ
  obtain ⟨zs, hz, S⟩ := lsA_open.1 S
  rw [← hfo] at hz
  obtain ⟨A1, c1, rfl⟩ := S.sl
  cases zs with
  | nil =>
    have hp : pickL D ((i : Int) + 1) L = L := pick_none (by rw [← hz]; rfl)
    rw [hf1, hp] at hnext
    (try simp (maxSteps := 1000000) (disch := first | omega | assumption | exact Nat.le_of_ble_eq_true rfl) only [go_sem, ↓mwp_block, simprocAttr, e4])
    refine hnext ?_ ?_ ?_ ?_ hseen S.tl.tl
    all_goals (try simp (maxSteps := 1000000) (disch := first | omega | assumption | exact Nat.le_of_ble_eq_true rfl) only [go_sem, ↓mwp_block, simprocAttr, e4])
  | cons z0 zs =>
  have hps := pick_some (L := L) (hz.symm : _ = z0.ys :: zs.map Bz.ys)
  obtain ⟨b1, rfl⟩ := S.ownAt (by simp)
  have hp0 : ∀ {h' : Heap} {l' : List HP}, St h0 h' (ownA Bz.enc 1 23 (.slice (some ⟨b1, 0, none⟩) (z0 :: zs).length c1) (z0 :: zs) :: l') → rd1 h' (.pointer (some ⟨b1, 0, none⟩)) = some (.slice z0.A z0.ys.length z0.c) := fun S' => by
    have := rd_arr (S'.arr bz_len) (i := 0) (by simp) (rfl : Bz.enc z0 = _)
    simpa using this
  have hp1 := hp0 S
  have h1l : ¬ (((z0 :: zs).length : Nat) : Int) = 0 := by simp; omega
  obtain ⟨_, hzl, hzc⟩ : (z0.ys.length = z0.ys.length) ∧ z0.ys.length ≤ z0.c ∧ z0.c < 9223372036854775808 := by
    obtain ⟨B, _, ho⟩ := row_says S.tl z0 (by simp)
    exact ⟨rfl, (ho.arr bEnc_len).2.2, ho.lt63⟩
  by_cases h4 : z0.ys.length < 4
  · have hp : pickL D ((i : Int) + 1) L = L := by rw [hps, if_pos h4]
    rw [hf1, hp] at hnext
    have h4' : (z0.ys.length : Int) < 4 := by omega
    (try simp (maxSteps := 1000000) (disch := first | omega | assumption | exact Nat.le_of_ble_eq_true rfl) only [go_sem, ↓mwp_block, simprocAttr, e4, hp1, h1l, h4'])
    refine hnext ?_ ?_ ?_ ?_ hseen (St.dropL S.tl).tl
    all_goals (try simp (maxSteps := 1000000) (disch := first | omega | assumption | exact Nat.le_of_ble_eq_true rfl) only [go_sem, ↓mwp_block, simprocAttr, e4])
  have h4' : ¬ (z0.ys.length : Int) < 4 := by omega
  rw [if_neg h4] at hps
  have hr0 : ∀ {h' : Heap} {X l' : List HP}, St h0 h' (X ++ ((z0 :: zs).map bRow ++ l')) → Arr bEnc 1 h' z0.A z0.ys := fun S' => by
    obtain ⟨B, _, ho⟩ := row_says (St.dropL S') z0 (by simp)
    exact (ho.arr bEnc_len).1
  (try simp (maxSteps := 1000000) (disch := first | omega | assumption | exact Nat.le_of_ble_eq_true rfl) only [go_sem, ↓mwp_block, simprocAttr, e4, hp1, h1l, h4'])
  have hN := Number_ok (A := z0.A) (c := z0.c) (arr_take (hr0 (X := [_]) S) 4) (by simp; omega)
  rw [List.length_take, Nat.min_eq_left (by omega)] at hN
  refine call_intro hN ?_
  clear hN
  rintro _ h ⟨rfl, rfl⟩
  have hn0 := num_nonneg (z0.ys.take 4)
  have hn1 : num (z0.ys.take 4) < 4294967296 := by
    have hn := num_lt (z0.ys.take 4)
    rw [List.length_take, Nat.min_eq_left (by omega)] at hn
    simpa using hn
  generalize num (z0.ys.take 4) = gg at *
  have Sq := St.dropL (ps := us.map rslotA) (St.dropL (ps := (z0 :: zs).map bRow) S.tl).tl.tl
  have hq1 := st_rd1 (off := 1) Sq
  simp only [List.getElem?_cons_succ, List.getElem?_cons_zero] at hq1
  by_cases hgg : gg ≤ L.gen
  · have hp : pickL D ((i : Int) + 1) L = L := by rw [hps, if_pos hgg]
    rw [hf1, hp] at hnext
    (try simp (maxSteps := 1000000) (disch := first | omega | assumption | exact Nat.le_of_ble_eq_true rfl) only [go_sem, ↓mwp_block, simprocAttr, e3, hq1, e4, hgg])
    refine hnext ?_ ?_ ?_ ?_ hseen (St.dropL S.tl).tl
    all_goals (try simp (maxSteps := 1000000) (disch := first | omega | assumption | exact Nat.le_of_ble_eq_true rfl) only [go_sem, ↓mwp_block, simprocAttr, e4])
  rw [if_neg hgg] at hps
  (try simp (maxSteps := 1000000) (disch := first | omega | assumption | exact Nat.le_of_ble_eq_true rfl) only [go_sem, ↓mwp_block, simprocAttr, e3, hq1, e4, hgg])
  obtain ⟨Ai, ci, hcut1, _, _, hai⟩ := cut_drop (hr0 (X := [_]) S) (at' := 4) (by omega) hzl hzc
  obtain ⟨_, hc1l, hc163⟩ := S.cap
  obtain ⟨Ar, cr, hcut2, har⟩ := cut_dropZ (b := b1) (zs := z0 :: zs) (by simp) hc1l hc163
  have S2 := St.dropL (ps := (z0 :: zs).map bRow) S.tl
  obtain ⟨A2, c2, rfl⟩ := S2.sl
  have hfl : framesOf (bsF o) = (z0 :: zs).map Bz.ys := by rw [← hfo]; exact hz.symm
  have hpl : (placesOf (framesOf (bsF o))).length = zs.length + 1 := by rw [placesOf_len, hfl, List.length_map]; rfl
  obtain ⟨b2, rfl⟩ := S2.ownAt (by omega)
  have hp2 : rd1 h (.pointer (some ⟨b2, zs.length, none⟩)) = some (.int .i64 (wholeL D ⟨(i : Int) + 1, gg, z0.ys.drop 4, zs.map Bz.ys, L.over⟩ : Nat)) := by
    have := rd_arr (S2.arr iEnc_len) (i := zs.length) (by omega) (rfl : iEnc _ = _)
    rw [places_at] at this
    rw [Nat.zero_add] at this
    rw [this]
    have e : (framesOf (bsF o)).take (zs.length + 1) = framesOf (bsF o) := List.take_of_length_le (by rw [hfl, List.length_map]; simp)
    rw [e]
    have hw : wholeL D ⟨(i : Int) + 1, gg, z0.ys.drop 4, zs.map Bz.ys, L.over⟩ = endOf (framesOf (bsF o)) := by
      unfold wholeL
      rw [if_neg (by show ¬ (i : Int) + 1 = 0; omega)]
      show endOf (framesOf (bsF (fileOf D ((i : Int) + 1)))) = _
      rw [hfo]
    rw [hw]
  have hcut1 : cutV z0.A 1 4 z0.ys.length z0.c z0.c = _ := hcut1
  have hcut2 : cutV (some ⟨b1, 0, none⟩) 1 1 ((zs.length + 1 : Nat) : Int) c1 c1 = _ := hcut2
  have hzlen : zs.length + 1 ≤ 1048576 := by
    have := frames_few (bsF o)
    rw [hfl, List.length_map, List.length_cons] at this
    omega
  have hw1 : IntKind.i64.wrap (((zs.length + 1 : Nat) : Int) - 1) = (zs.length : Nat) := by rw [wrap_i64 (by omega) (by omega)]; omega
  refine draw_eq ?_
  (try simp (maxSteps := 1000000) (disch := first | omega | assumption | exact Nat.le_of_ble_eq_true rfl) only [go_sem, ↓mwp_block, simprocAttr, e3, e4, hp1, hcut1, hcut2, hpl, hw1, hp2, Nat.mul_one])
  clear hp1 hp2 hq1 Sq S2
  have S1 := St.stars.2 (S.perm (List.perm_middle (l₁ := (z0 :: zs).map bRow)).symm : St h0 h ((z0 :: zs).map bRow ++ _))
  have S1 := St.stars.2 (S1.perm (List.perm_append_comm_assoc [_, _, _, _] (us.map rslotA) _) : St h0 h (us.map rslotA ++ _))
  simp only [List.cons_append, List.nil_append] at S1
  refine st_store S1.p5 rfl rfl (Nat.le_of_ble_eq_true rfl) ?_
  clear S S1
  intro h S
  (try simp only [splice_cons, splice_nil, List.set_cons_zero, List.set_cons_succ, Nat.zero_add, Nat.reduceAdd, List.cons_append, List.nil_append] at S)
  have S := S.perm (List.perm_append_comm_assoc [_, _, _, _, _, _, _] g l) |>.dropL
  simp only [List.cons_append, List.nil_append] at S
  (try simp (maxSteps := 1000000) (disch := first | omega | assumption | exact Nat.le_of_ble_eq_true rfl) only [go_sem, ↓mwp_block, simprocAttr, e4])
  refine hnext (iv' := .slice Ai (z0.ys.drop 4).length ci) (rv' := .slice Ar zs.length cr) (g' := [ownA Bz.enc 1 23 (.slice (some ⟨b1, 0, none⟩) (z0 :: zs).length c1) (z0 :: zs), starsA ((z0 :: zs).map bRow)]) ?_ ?_ ?_ ?_ ?_ ?_
  all_goals first | ((try simp (maxSteps := 1000000) (disch := first | omega | assumption | exact Nat.le_of_ble_eq_true rfl) only [go_sem, ↓mwp_block, simprocAttr, e4]); done) | skip
  · rw [hf1, hps]
    refine ⟨Ai, ci, Ar, cr, zs, rfl, rfl, rfl, fun h2 l2 S' => ?_⟩
    have Sr := St.stars.1 (S'.tl : St h0 h2 (starsA ((z0 :: zs).map bRow) :: l2))
    refine ⟨hai h2 (hr0 (X := []) Sr), har h2 ⟨(S' : St h0 h2 (ownA Bz.enc 1 23 (.slice (some ⟨b1, 0, none⟩) (z0 :: zs).length c1) (z0 :: zs) :: _)).arr bz_len, fun z hz => ?_⟩⟩
    obtain ⟨B, _, ho⟩ := row_says Sr z hz
    exact (ho.arr bEnc_len).1
  · rw [hf1, hps]
    exact (St.stars.1 S.p4.tl.p2.p3.p5.p3.p5.p5).perm List.perm_middle
end Go.Proofs.Ytnjjdpeglkiifaa.MX

/- The law LogFinds. -/
namespace Go.Proofs.Ytnjjdpeglkiifaa.MX
open Go Go.Proofs
set_option linter.unusedSimpArgs false
set_option linter.unusedVariables false
set_option maxHeartbeats 32000000
theorem open_size {D : Dk} (ok : D.ok) (hlo : D.lost = false) (hfu : D.fuse ≠ 0) (h : findL D ≠ lg0) : szF (fileOf (openD D) (findL D).file) = wholeL D (findL D) := by
  rcases find_file D with hx | ⟨n, f, g, img, k, hn, hf, hb, hL⟩
  · exact (h hx).elim
  have hLn : (findL D).file = n := by rw [hL]
  have hn8 : 0 ≤ n ∧ n < 8 := by rcases hn with rfl | rfl <;> decide
  have hn0 : ¬ n = 0 := by rcases hn with rfl | rfl <;> decide
  unfold wholeL openD
  rw [hLn, hf, if_neg hn0]
  simp only [bsF]
  have hw := (framesOf_drop _ f.bs (Nat.le_refl _)).2
  rw [List.take_length] at hw
  have ht : thereE D n = 0 := by rw [there_at hlo hn8.1 hn8.2, hf]; rfl
  by_cases hlt : endOf (framesOf f.bs) < f.bs.length
  · rw [if_pos hlt]
    have hc : (cutD D n (endOf (framesOf f.bs) : Nat)).1 = ⟨D.cap, D.fs.set n.toNat (some ⟨f.bs.take (endOf (framesOf f.bs)), endOf (framesOf f.bs)⟩), burnF D.fuse, D.lost⟩ := by
      rw [cutD, if_neg (by rw [ht]; simp), hf, if_neg (by simp; omega), if_neg hfu]
      simp
    rw [hc, fileOf_setN ok.len hn8 hn8, if_pos rfl]
    simp [szF]
    omega
  · rw [if_neg hlt, hf]
    show f.bs.length = _
    omega
theorem LogFinds_ok' (A : Option Addr) (c : Nat) (b : List UInt8) (A2 : Option Addr) (c2 : Nat) (b2 : List UInt8) (ks : K8) (h0 : Heap) (ha : Arr bEnc 1 h0 A b) (hc : b.length ≤ c) (hc2 : c ≤ maxLen) (ha2 : Arr bEnc 1 h0 A2 b2) (hc' : b2.length ≤ c2) (hc2' : c2 ≤ maxLen) (hks : ks.ok) :
    CallsH Try.prog 13 [.slice A b.length c, .slice A2 b2.length c2, .agg ks.enc.toArray] h0 fun v h' => v = .bool true ∧ Fr h0 h' [] := by
  have hm : maxLen = 9223372036854775807 := rfl
  have S := St.nil h0
  (refine enterK c_recouplaw04_LogFinds (Nat.le_of_ble_eq_true rfl) fun K hK => ?_; (try simp (maxSteps := 1000000) (disch := first | omega | assumption | exact Nat.le_of_ble_eq_true rfl) only [go_sem, ↓mwp_block, simprocAttr, ir_recouplaw04_LogFinds]))
  (try simp (maxSteps := 1000000) (disch := first | omega | assumption | exact Nat.le_of_ble_eq_true rfl) only [go_sem, ↓mwp_block, simprocAttr, K8.enc, k8, K8.l])
  (refine st_alloc S ?_; clear S; intro q h S; (try simp only [splice_cons, splice_nil, List.set_cons_zero, List.set_cons_succ, Nat.zero_add, Nat.reduceAdd, List.cons_append, List.nil_append] at S); ((try clear F); have F := S.all; (try simp only [all_cons, all_nil, says_cell, and_true] at F)))
  (try simp (maxSteps := 1000000) (disch := first | omega | assumption | exact Nat.le_of_ble_eq_true rfl) only [go_sem, ↓mwp_block, simprocAttr])
  refine call_intro (awake04_ok _) ?_
  rintro _ h ⟨rfl, hf⟩
  have S := S.frame hf
  clear F
  by_cases g1 : 70000 < (b.length : Int)
  · (try simp (maxSteps := 1000000) (disch := first | omega | assumption | exact Nat.le_of_ble_eq_true rfl) only [go_sem, ↓mwp_block, simprocAttr, g1])
    refine call_intro (awake04_ok _) ?_
    rintro _ h ⟨rfl, hf⟩
    (try simp (maxSteps := 1000000) (disch := first | omega | assumption | exact Nat.le_of_ble_eq_true rfl) only [go_sem, ↓mwp_block, simprocAttr])
    exact hK _ _ ⟨rfl, (S.frame hf).fr⟩
  by_cases g2 : 70000 < (b2.length : Int)
  · (try simp (maxSteps := 1000000) (disch := first | omega | assumption | exact Nat.le_of_ble_eq_true rfl) only [go_sem, ↓mwp_block, simprocAttr, g1, g2])
    refine call_intro (awake04_ok _) ?_
    rintro _ h ⟨rfl, hf⟩
    (try simp (maxSteps := 1000000) (disch := first | omega | assumption | exact Nat.le_of_ble_eq_true rfl) only [go_sem, ↓mwp_block, simprocAttr])
    exact hK _ _ ⟨rfl, (S.frame hf).fr⟩
  (try simp (maxSteps := 1000000) (disch := first | omega | assumption | exact Nat.le_of_ble_eq_true rfl) only [go_sem, ↓mwp_block, simprocAttr, g1, g2])
  refine call_intro (New_ok 1048576 S) ?_
  clear S hf
  rintro _ h (⟨_, _, d, rfl, S⟩ | ⟨hn, _⟩)
  case inr => exact absurd ⟨by decide, by decide⟩ hn
  have S : St h0 h (diskA d (dk0 1048576) :: _) := S
  (try simp (maxSteps := 1000000) (disch := first | omega | assumption | exact Nat.le_of_ble_eq_true rfl) only [go_sem, ↓mwp_block, simprocAttr])
  refine call_intro (RNew_ok 1048576 S) ?_
  clear S
  rintro _ h ⟨w, rfl, S⟩
  have S : St h0 h (refA w (dk0 1048576) :: _) := S
  have ok0 := dk0_ok (cap := 1048576) ⟨by decide, by decide⟩
  generalize dk0 1048576 = D0 at *
  (try simp (maxSteps := 1000000) (disch := first | omega | assumption | exact Nat.le_of_ble_eq_true rfl) only [go_sem, ↓mwp_block, simprocAttr])
  refine call_intro (Append_ok 1 S.p1 ok0 (fun h' S' => ha.fr S'.fr (by simp)) hc (by omega)) ?_
  clear S
  rintro _ h ⟨rfl, S⟩
  have ok1 := append_okn ok0 1 b
  generalize hD1 : (appendD D0 1 b).1 = D1 at *
  (try simp (maxSteps := 1000000) (disch := first | omega | assumption | exact Nat.le_of_ble_eq_true rfl) only [go_sem, ↓mwp_block, simprocAttr])
  refine call_intro (Append_ok 2 S ok1 (fun h' S' => ha2.fr S'.fr (by simp)) hc' (by omega)) ?_
  clear S
  rintro _ h ⟨rfl, S⟩
  have ok2 := append_okn ok1 2 b2
  generalize hD2 : (appendD D1 2 b2).1 = D2 at *
  (try simp (maxSteps := 1000000) (disch := first | omega | assumption | exact Nat.le_of_ble_eq_true rfl) only [go_sem, ↓mwp_block, simprocAttr])
  refine call_intro (RAct0_ok 1 0 S.p1 ok0 (fun h' S' => ha.fr S'.fr (by simp)) hc (by omega)) ?_
  clear S
  rintro _ h ⟨rfl, S⟩
  rw [hD1] at S
  (try simp (maxSteps := 1000000) (disch := first | omega | assumption | exact Nat.le_of_ble_eq_true rfl) only [go_sem, ↓mwp_block, simprocAttr])
  refine call_intro (RAct0_ok 2 0 S ok1 (fun h' S' => ha2.fr S'.fr (by simp)) hc' (by omega)) ?_
  clear S
  rintro _ h ⟨rfl, S⟩
  rw [hD2] at S
  (try simp (maxSteps := 1000000) (disch := first | omega | assumption | exact Nat.le_of_ble_eq_true rfl) only [go_sem, ↓mwp_block, simprocAttr])
  refine call_intro (Sync_ok 1 S.p1 ok2) ?_
  clear S
  rintro _ h ⟨rfl, S⟩
  have ok3 := sync_okn ok2 1
  generalize hD3 : (syncD D2 1).1 = D3 at *
  (try simp (maxSteps := 1000000) (disch := first | omega | assumption | exact Nat.le_of_ble_eq_true rfl) only [go_sem, ↓mwp_block, simprocAttr])
  refine call_intro (RAct1_ok 1 0 _ S.p1 ok2) ?_
  clear S
  rintro _ h ⟨rfl, S⟩
  rw [hD3] at S
  ((try clear F); have F := S.all; (try simp only [all_cons, all_nil, says_cell, and_true] at F))
  (try simp (maxSteps := 1000000) (disch := first | omega | assumption | exact Nat.le_of_ble_eq_true rfl) only [go_sem, ↓mwp_block, simprocAttr, F])
  refine call_intro (Restart_ok ks.l rfl hks S.p1 ok3) ?_
  clear S F
  rintro _ h S
  ((try clear F); have F := S.all; (try simp only [all_cons, all_nil, says_cell, and_true] at F))
  (try simp (maxSteps := 1000000) (disch := first | omega | assumption | exact Nat.le_of_ble_eq_true rfl) only [go_sem, ↓mwp_block, simprocAttr, F])
  refine call_intro (RRestart_ok ks.l rfl hks S.p1 ok3) ?_
  clear S F
  rintro _ h S
  have ok4 := rest_ok ok3 (ks := ks.l) rfl
  have hlo : (restartD D3 ks.l).lost = false := rfl
  have hfu : (restartD D3 ks.l).fuse ≠ 0 := by show ¬ ((-1 : Int) = 0); decide
  clear hD1 hD2 hD3 ok0 ok1 ok2 ok3
  generalize restartD D3 ks.l = D at *
  (try simp (maxSteps := 1000000) (disch := first | omega | assumption | exact Nat.le_of_ble_eq_true rfl) only [go_sem, ↓mwp_block, simprocAttr])
  refine call_intro (RFind_ok ok4 S) ?_
  clear S
  rintro _ h ⟨iv, rv, g, rfl, ⟨Ai, ci, Ar, cr, zs, rfl, rfl, hz, hsee⟩, S⟩
  (try simp (maxSteps := 1000000) (disch := first | omega | assumption | exact Nat.le_of_ble_eq_true rfl) only [go_sem, ↓mwp_block, simprocAttr])
  (refine st_alloc S ?_; clear S; intro r h S; (try simp only [splice_cons, splice_nil, List.set_cons_zero, List.set_cons_succ, Nat.zero_add, Nat.reduceAdd, List.cons_append, List.nil_append] at S); ((try clear F); have F := S.all; (try simp only [all_cons, all_nil, says_cell, and_true] at F)))
  (try simp (maxSteps := 1000000) (disch := first | omega | assumption | exact Nat.le_of_ble_eq_true rfl) only [go_sem, ↓mwp_block, simprocAttr])
  (refine st_store (by first | exact S | exact S.p1 | exact S.p2 | exact S.p3 | exact S.p4 | exact S.p5 | exact S.p6 | exact S.p7 | exact S.p8 | exact S.p9 | exact S.p10 | exact S.p11) (by rfl) (by rfl) (Nat.le_of_ble_eq_true rfl) ?_; clear S; intro h S; (try simp only [splice_cons, splice_nil, List.set_cons_zero, List.set_cons_succ, Nat.zero_add, Nat.reduceAdd, List.cons_append, List.nil_append] at S); ((try clear F); have F := S.all; (try simp only [all_cons, all_nil, says_cell, and_true] at F)))
  clear F
  (try simp (maxSteps := 1000000) (disch := first | omega | assumption | exact Nat.le_of_ble_eq_true rfl) only [go_sem, ↓mwp_block, simprocAttr])
  have S := S.perm (List.Perm.cons _ (List.perm_append_comm_assoc g [_, _] _))
  have S := S.p2.p2.tl
  have hsize := open_size ok4 hlo hfu
  have hffile := find_file D
  by_cases h0f : findL D = lg0
  · have hf0 : (findL D).file = 0 := by rw [h0f]; rfl
    refine call_intro (Open_ok ok4 hlo hfu S) ?_
    clear S
    rintro _ h (⟨_, rfl, S⟩ | ⟨hx, _⟩)
    case inr => exact absurd hf0 hx
    ((try clear F); have F := S.all; (try simp only [all_cons, all_nil, says_cell, and_true] at F))
    (try simp (maxSteps := 1000000) (disch := first | omega | assumption | exact Nat.le_of_ble_eq_true rfl) only [go_sem, ↓mwp_block, simprocAttr, F, hf0])
    refine call_intro (Open_ok ok4 hlo hfu S) ?_
    clear S F
    rintro _ h (⟨_, rfl, S⟩ | ⟨hx, _⟩)
    case inr => exact absurd hf0 hx
    (try simp (maxSteps := 1000000) (disch := first | omega | assumption | exact Nat.le_of_ble_eq_true rfl) only [go_sem, ↓mwp_block, simprocAttr])
    exact hK _ _ ⟨rfl, S.fr⟩
  refine call_intro (Open_ok ok4 hlo hfu S) ?_
  clear S
  have hlok := find_lok D ok4
  rintro _ h (⟨hx, _⟩ | ⟨hn0, p, rfl, S⟩)
  · exact (h0f hx).elim
  have hsz := hsize h0f
  have ok5 := openD_ok ok4
  generalize findL D = L at *
  generalize openD D = D5 at *
  have hI0 : ∀ {h' : Heap} {l' : List HP}, St h0 h' (cellA r [.int .i64 L.file, .int .i64 L.gen, .slice Ai L.img.length ci, .slice Ar zs.length cr, .int .i64 (wholeL D L : Nat)] 85 :: l') → rd1 h' (.pointer (some ⟨r, 0, none⟩)) = some (.int .i64 L.file) ∧ rd1 h' (.pointer (some ⟨r, 1, none⟩)) = some (.int .i64 L.gen) ∧ rd1 h' (.pointer (some ⟨r, 2, none⟩)) = some (.slice Ai L.img.length ci) ∧ rd1 h' (.pointer (some ⟨r, 3, none⟩)) = some (.slice Ar zs.length cr) ∧ rd1 h' (.pointer (some ⟨r, 4, none⟩)) = some (.int .i64 (wholeL D L : Nat)) := fun S' => ⟨st_rd1 (off := 0) S', st_rd1 (off := 1) S', st_rd1 (off := 2) S', st_rd1 (off := 3) S', st_rd1 (off := 4) S'⟩
  generalize hII : (fun h' => rd1 h' (.pointer (some ⟨r, 0, none⟩)) = some (.int .i64 L.file) ∧ rd1 h' (.pointer (some ⟨r, 1, none⟩)) = some (.int .i64 L.gen) ∧ rd1 h' (.pointer (some ⟨r, 2, none⟩)) = some (.slice Ai L.img.length ci) ∧ rd1 h' (.pointer (some ⟨r, 3, none⟩)) = some (.slice Ar zs.length cr) ∧ rd1 h' (.pointer (some ⟨r, 4, none⟩)) = some (.int .i64 (wholeL D L : Nat)) : Heap → Prop) = I
  have hI : ∀ {h' : Heap} {l' : List HP}, St h0 h' (cellA r [.int .i64 L.file, .int .i64 L.gen, .slice Ai L.img.length ci, .slice Ar zs.length cr, .int .i64 (wholeL D L : Nat)] 85 :: l') → I h' := fun S' => by rw [← hII]; exact hI0 S'
  have hh := hI S.p2
  have r0 : ∀ K t, readT I (fun h' => rd1 h' (.pointer (some ⟨r, 0, none⟩))) K t = K (.int .i64 L.file) := fun K t => readT_I (fun h' hx => by rw [← hII] at hx; exact hx.1) h hh
  have r1 : ∀ K t, readT I (fun h' => rd1 h' (.pointer (some ⟨r, 1, none⟩))) K t = K (.int .i64 L.gen) := fun K t => readT_I (fun h' hx => by rw [← hII] at hx; exact hx.2.1) h hh
  have r2 : ∀ K t, readT I (fun h' => rd1 h' (.pointer (some ⟨r, 2, none⟩))) K t = K (.slice Ai L.img.length ci) := fun K t => readT_I (fun h' hx => by rw [← hII] at hx; exact hx.2.2.1) h hh
  have r3 : ∀ K t, readT I (fun h' => rd1 h' (.pointer (some ⟨r, 3, none⟩))) K t = K (.slice Ar zs.length cr) := fun K t => readT_I (fun h' hx => by rw [← hII] at hx; exact hx.2.2.2.1) h hh
  have r4 : ∀ K t, readT I (fun h' => rd1 h' (.pointer (some ⟨r, 4, none⟩))) K t = K (.int .i64 (wholeL D L : Nat)) := fun K t => readT_I (fun h' hx => by rw [← hII] at hx; exact hx.2.2.2.2) h hh
  ((try clear F); have F := S.all; (try simp only [all_cons, all_nil, says_cell, and_true] at F))
  (try simp (maxSteps := 1000000) (disch := first | omega | assumption | exact Nat.le_of_ble_eq_true rfl) only [go_sem, ↓mwp_block, simprocAttr, F, hn0])
  refine draw_inv I hh ?_
  (try simp (maxSteps := 1000000) (disch := first | omega | assumption | exact Nat.le_of_ble_eq_true rfl) only [go_sem, ↓mwp_block, simprocAttr, r0, r1])
  refine call_intro (GenL_ok S) ?_
  rintro _ h ⟨rfl, rfl⟩
  refine ⟨hh, ?_⟩
  (try simp (maxSteps := 1000000) (disch := first | omega | assumption | exact Nat.le_of_ble_eq_true rfl) only [go_sem, ↓mwp_block, simprocAttr, r2, r3])
  have hzl : zs.length = L.recs.length := by rw [← hz, List.length_map]
  have hlen := hlok.len
  refine call_intro (Same_ok (L := L) hlok S (fun h' S' => (hsee h' _ (St.dropL (ps := [_, _, _]) S')).1) (fun h' S' => (hsee h' _ (St.dropL (ps := [_, _, _]) S')).2) hlok.img (fun z hz' => hlok.recs _ (by rw [← hz]; exact List.mem_map_of_mem hz')) (by omega)) ?_
  clear S F
  rintro _ h ⟨rfl, S⟩
  refine ⟨hI S.p2, ?_⟩
  rw [dcd_true ⟨rfl, hz.symm⟩]
  (try simp (maxSteps := 1000000) (disch := first | omega | assumption | exact Nat.le_of_ble_eq_true rfl) only [go_sem, ↓mwp_block, simprocAttr, r0, r4])
  refine call_intro (Size_ok L.file S.p1) ?_
  rintro _ h ⟨rfl, rfl⟩
  refine ⟨hI S.p2, ?_⟩
  rw [hsz]
  (try simp (maxSteps := 1000000) (disch := first | omega | assumption | exact Nat.le_of_ble_eq_true rfl) only [go_sem, ↓mwp_block, simprocAttr])
  exact hK _ _ ⟨rfl, S.fr⟩
theorem LogFinds_ok (A : Option Addr) (c : Nat) (b : List U8) (A2 : Option Addr) (c2 : Nat) (b2 : List U8) (ks : K8) (h0 : Heap) (ha : Arr U8.enc 1 h0 A b) (hc : b.length ≤ c) (hc2 : c ≤ maxLen) (_ : ∀ x ∈ b, x.ok) (ha2 : Arr U8.enc 1 h0 A2 b2) (hc' : b2.length ≤ c2) (hc2' : c2 ≤ maxLen) (_ : ∀ x ∈ b2, x.ok) (hks : ks.ok) :
    CallsH Try.prog 13 [.slice A b.length c, .slice A2 b2.length c2, .agg ks.enc.toArray] h0 fun v h' => v = .bool true ∧ Fr h0 h' [] := by
  have := LogFinds_ok' A c (b.map U8.n) A2 c2 (b2.map U8.n) ks h0 (arrU8 ha) (by simpa using hc) hc2 (arrU8 ha2) (by simpa using hc') hc2' hks
  rwa [List.length_map, List.length_map] at this
end Go.Proofs.Ytnjjdpeglkiifaa.MX
