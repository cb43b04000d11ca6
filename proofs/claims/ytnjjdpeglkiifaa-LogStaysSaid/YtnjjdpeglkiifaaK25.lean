/- Texts in one file: Lt2, Lt3, Lt4. -/
import Derived.Test.YtnjjdpeglkiifaaK23
import Derived.Test.YtnjjdpeglkiifaaK24

/- The law LogStays: what holds between two acts. -/
namespace Go.Proofs.Ytnjjdpeglkiifaa.MX
open Go Go.Proofs
set_option linter.unusedSimpArgs false
set_option linter.unusedVariables false
set_option maxHeartbeats 4000000
/-- Slices of records that were made, and stay. -/
def hA (x : Value × List Bz) : HP := ownA Bz.enc 1 23 x.1 x.2
/-- An image, out of the arguments. -/
def Img (h0 : Heap) (W : Value) (bs : List UInt8) : Prop := ∃ A c, W = .slice A bs.length c ∧ Arr bEnc 1 h0 A bs ∧ bs.length < 1000000
/-- Records, out of the arguments, in a slice that stays. -/
def Rcs (h0 : Heap) (F : List (Value × List Bz)) (R : Value) (xs : List (List UInt8)) : Prop := ∃ zs, (R, zs) ∈ F ∧ zs.map Bz.ys = xs ∧ zs.length < 1000000 ∧ ∀ z ∈ zs, Arr bEnc 1 h0 z.A z.ys ∧ z.ys.length < 1000000000
theorem Rcs.mono {h0 : Heap} {F G : List (Value × List Bz)} {R : Value} {xs : List (List UInt8)} (h : Rcs h0 F R xs) (hs : ∀ x ∈ F, x ∈ G) : Rcs h0 G R xs := by
  obtain ⟨zs, h1, h2⟩ := h
  exact ⟨zs, hs _ h1, h2⟩
theorem Rcs.rl {h0 h : Heap} {F : List (Value × List Bz)} {R : Value} {xs : List (List UInt8)} {L l : List HP} (r : Rcs h0 F R xs) (S : St h0 h (L ++ (F.map hA ++ l))) :
    ∃ A c zs, R = .slice A zs.length c ∧ zs.map Bz.ys = xs ∧ zs.length < 1000000 ∧ (∀ z ∈ zs, Arr bEnc 1 h0 z.A z.ys ∧ z.ys.length < 1000000000) ∧ (R, zs) ∈ F ∧ ∀ h' (L' l' : List HP), St h0 h' (L' ++ (F.map hA ++ l')) → RL h' A zs := by
  obtain ⟨zs, h1, h2, h3, h4⟩ := r
  have hs := row_says (St.dropL S) _ h1
  obtain ⟨B, _, ho⟩ := hs
  have ho : Own Bz.enc 1 23 0 h R zs := ho
  obtain ⟨A, c, rfl⟩ := ho.slice
  refine ⟨A, c, zs, rfl, h2, h3, h4, h1, fun h' L' l' S' => ⟨?_, fun z hz => (h4 z hz).1.fr S'.fr (by simp)⟩⟩
  obtain ⟨B', _, ho'⟩ := row_says (St.dropL S') _ h1
  exact (ho'.arr bz_len).1
structure Now (h0 : Heap) (F : List (Value × List Bz)) (D : Dk) (L : Lg) (W R N M : Value) (A B : List UInt8 × List (List UInt8)) : Prop where
  ok : D.ok
  wf : L.wf
  few : L.recs.length < 1000000
  was : Img h0 W A.1
  recs : Rcs h0 F R A.2
  next : Img h0 N B.1
  more : Rcs h0 F M B.2
  reach : Reach D A B
  same : D.lost = L.over
  live : L.over = false → Keeps D L ∧ (L.img, L.recs) = A
theorem fuse_okM {D : Dk} (ok : D.ok) {m : Int} (h0 : 0 ≤ m) (h1 : m < 9223372036854775808) : (fuseD D m).1.ok := by
  unfold fuseD
  split
  · exact ok
  · split
    · exact ok
    · exact ⟨ok.len, ok.cap, ok.room, ⟨by simp only; omega, h1⟩, ok.safe⟩
theorem fuse_lost (D : Dk) (m : Int) : (fuseD D m).1.lost = D.lost := by unfold fuseD; split; · rfl
                                                                         split <;> rfl
theorem fuse_fs (D : Dk) (m : Int) : (fuseD D m).1.fs = D.fs ∧ (fuseD D m).1.cap = D.cap := by
  unfold fuseD
  split
  · exact ⟨rfl, rfl⟩
  · split <;> exact ⟨rfl, rfl⟩
theorem Now.fuse {h0 : Heap} {F : List (Value × List Bz)} {D : Dk} {L : Lg} {W R N M : Value} {A B : List UInt8 × List (List UInt8)} {m : Int} (n : Now h0 F D L W R N M A B) (h0' : 0 ≤ m) (h1 : m < 9223372036854775808) : Now h0 F (fuseD D m).1 L W R N M A B := by
  obtain ⟨e1, e2⟩ := fuse_fs D m
  have hfo : ∀ k, fileOf (fuseD D m).1 k = fileOf D k := fun k => by unfold fileOf; rw [e1]
  refine ⟨fuse_okM n.ok h0' h1, n.wf, n.few, n.was, n.recs, n.next, n.more, ?_, by rw [fuse_lost]; exact n.same, fun h => ?_⟩
  · intro ks hk
    have : restartD (fuseD D m).1 ks = restartD D ks := by unfold restartD; rw [e1, e2]
    rw [this]
    exact n.reach ks hk
  · obtain ⟨⟨k1, k2⟩, k3⟩ := n.live h
    exact ⟨⟨by rw [hfo]; exact k1, by rw [hfo]; exact k2⟩, k3⟩
/-- What a log is that is opened when the power comes back. -/
theorem Reach.opened {D : Dk} {A B : List UInt8 × List (List UInt8)} (ok : D.ok) (r : Reach D A B) {ks : List Int} (hk : ks.length = 8) :
    ∃ L : Lg, L.wf ∧ L.over = false ∧ L.ok ∧ ((L.img, L.recs) = A ∨ (L.img, L.recs) = B) ∧ (restartD D ks).ok ∧ findL (restartD D ks) = L ∧ (openD (restartD D ks)).ok ∧ (openD (restartD D ks)).lost = false ∧ (openD (restartD D ks)).fuse = -1 ∧ Keeps (openD (restartD D ks)) L := by
  obtain ⟨L, w, ho, ht, hab⟩ := r ks hk
  have ok1 := rest_ok ok hk
  have hL0 : ({ L with over := false } : Lg) = L := by rw [← ho]
  have hf := find_torn w ht
  rw [hL0] at hf
  obtain ⟨k1, k2, k3⟩ := open_torn w ok1.len rfl (by show ¬ ((-1 : Int) = 0); decide) ht
  exact ⟨L, w, ho, by rw [← hf]; exact find_lok _ ok1, hab, ok1, hf, openD_ok ok1, k2, k3 rfl, k1⟩
/-- Opened once more. -/
theorem Keeps.again {D : Dk} {L : Lg} (ok : D.ok) (w : L.wf) (ho : L.over = false) (hlo : D.lost = false) (hfu : D.fuse = -1) (k : Keeps D L) : findL D = L ∧ Keeps (openD D) L ∧ (openD D).lost = false := by
  have hL0 : ({ L with over := false } : Lg) = L := by rw [← ho]
  have hf := find_torn w k.torn
  rw [hL0] at hf
  obtain ⟨k1, k2, _⟩ := open_torn w ok.len hlo (by rw [hfu]; decide) k.torn
  exact ⟨hf, k1, k2⟩
theorem Keeps.lok {D : Dk} {L : Lg} (ok : D.ok) (w : L.wf) (ho : L.over = false) (k : Keeps D L) : L.ok := by
  have hL0 : ({ L with over := false } : Lg) = L := by rw [← ho]
  have hf := find_torn w k.torn
  rw [hL0] at hf
  rw [← hf]
  exact find_lok _ ok
theorem dk1_keeps {cap : Int} {img : List UInt8} (h : img.length + 4 ≤ 60000) : Keeps (dk1 cap (headF 1 img)) ⟨1, 1, img, [], false⟩ ∧ Lg.wf ⟨1, 1, img, [], false⟩ := by
  have hby : bytesOf ⟨1, 1, img, [], false⟩ = headF 1 img := by simp [bytesOf]
  refine ⟨⟨by rw [hby]; rfl, ?_⟩, ⟨.inl rfl, ⟨by show (1 : Int) ≤ 1; decide, by show (1 : Int) ≤ 2147483648; decide⟩, h, by simp⟩⟩
  intro f hf
  cases hf
end Go.Proofs.Ytnjjdpeglkiifaa.MX

/- The law LogStays: the walk. -/
namespace Go.Proofs.Ytnjjdpeglkiifaa.MX
open Go Go.Proofs
set_option linter.unusedSimpArgs false
set_option linter.unusedVariables false
set_option maxHeartbeats 32000000
section
variable {h0 h : Heap} {l : List HP} {p d : Nat} {D : Dk} {L : Lg} {F : List (Value × List Bz)} {W R N M : Value} {A B : List UInt8 × List (List UInt8)}
/-- What is read of an image. -/
theorem Img.at {W : Value} {bs : List UInt8} (i : Img h0 W bs) : ∃ A c, W = .slice A bs.length c ∧ (∀ h' (l' : List HP), St h0 h' l' → Arr bEnc 1 h' A bs) ∧ bs.length < 1000000 := by
  obtain ⟨A, c, h1, h2, h3⟩ := i
  exact ⟨A, c, h1, fun h' l' S => h2.fr S.fr (by simp), h3⟩
theorem SameIR_ok {X : Value} {Y : Value} {img : List UInt8} {recs : List (List UInt8)} {q d' : Nat} {L' : Lg} {l' : List HP} (ok : L'.ok) (S : St h0 h (logA q d' L' :: l')) (hS : ∃ Q l'', l' = Q ++ (F.map hA ++ l'')) (i : Img h0 X img) (r : Rcs h0 F Y recs) :
    CallsH Try.prog 43 [.pointer (some ⟨q, 0, none⟩), X, Y] h fun v h' => v = .bool (dcd (L'.img = img ∧ L'.recs = recs)) ∧ St h0 h' (logA q d' L' :: l') := by
  obtain ⟨A, c, rfl, ha, hl⟩ := i.at
  obtain ⟨Q, l'', rfl⟩ := hS
  obtain ⟨A2, c2, zs, rfl, hz, hzl, hzz, _, hrl⟩ := r.rl (L := logA q d' L' :: Q) (l := l'') S
  rw [← hz]
  exact Same_ok ok S (fun h' S' => ha h' _ S') (fun h' S' => hrl h' (logA q d' L' :: Q) l'' S') (by omega) (fun z hz => (hzz z hz).2) (by omega)
end
theorem appL_okn {D : Dk} (ok : D.ok) (L : Lg) (b : List UInt8) : (appendL D L b).1.ok := by
  unfold appendL
  split
  · exact ok
  · split
    · exact ok
    · split
      · exact append_okn ok _ _
      · split
        · exact sync_okn (append_okn ok _ _) _
        · exact sync_okn (append_okn ok _ _) _
theorem comL_okn {D : Dk} (ok : D.ok) (L : Lg) (b : List UInt8) : (compactL D L b).1.ok := by
  unfold compactL
  split
  · exact ok
  · split
    · exact ok
    · split
      · exact ok
      · split
        · exact make_okn ok _ _
        · split
          · exact remove_okn (make_okn ok _ _) _
          · exact make_okn ok _ _
theorem appL_recs (D : Dk) (L : Lg) (b : List UInt8) : (appendL D L b).2.1.recs.length ≤ L.recs.length + 1 := by
  unfold appendL overL
  split
  · exact Nat.le_succ _
  · split
    · exact Nat.le_succ _
    · split
      · exact Nat.le_succ _
      · split
        · exact Nat.le_succ _
        · simp
theorem comL_recs (D : Dk) (L : Lg) (b : List UInt8) : (compactL D L b).2.1.recs.length ≤ L.recs.length := by
  unfold compactL overL
  split
  · exact Nat.le_refl _
  · split
    · exact Nat.le_refl _
    · split
      · exact Nat.le_refl _
      · split
        · exact Nat.le_refl _
        · split
          · exact Nat.zero_le _
          · exact Nat.zero_le _
theorem few_recs {D : Dk} {L : Lg} (ok : D.ok) (k : Keeps D L) (w : L.wf) : L.recs.length < 200000 := by
  have h1 := file_le ok k.1
  have h2 := endOf_8 (l := L.recs) fun x hx => (w.recs x hx).1
  rw [endOf_flat] at h2
  have h3 : (bytesOf L).length = (headF L.gen L.img).length + (L.recs.flatMap frameOf).length := by rw [bytesOf, List.length_append]
  have h4 : (bytesOf L).length ≤ 1048576 := h1
  omega
end Go.Proofs.Ytnjjdpeglkiifaa.MX

/- The law LogStays. -/
namespace Go.Proofs.Ytnjjdpeglkiifaa.MX
open Go Go.Proofs
set_option linter.unusedSimpArgs false
set_option linter.unusedVariables false
set_option maxHeartbeats 64000000
theorem LogStays_ok' (cap : Int) (Ai : Option Addr) (ci : Nat) (img : List UInt8) (A : Option Addr) (c : Nat) (xs : List Op4) (h0 : Heap) (hcap : I64 cap) (hai : Arr bEnc 1 h0 Ai img) (hci : img.length ≤ ci) (hci2 : ci ≤ maxLen) (ha : Arr Op4.enc 11 h0 A xs) (hc : xs.length ≤ c) (hc2 : c ≤ maxLen) (hok : ∀ x ∈ xs, x.ok h0) :
    CallsH Try.prog 14 [.int .i64 cap, .slice Ai img.length ci, .slice A xs.length c] h0 fun v h' => v = .bool true ∧ Fr h0 h' [] := by
  have hm : maxLen = 9223372036854775807 := rfl
  have S := St.nil h0
  obtain ⟨hcap1, hcap2⟩ := hcap
  (refine enterK c_recouplaw04_LogStays (Nat.le_of_ble_eq_true rfl) fun K hK => ?_; (try simp (maxSteps := 1000000) (disch := first | omega | assumption | exact Nat.le_of_ble_eq_true rfl) only [go_sem, ↓mwp_block, simprocAttr, ir_recouplaw04_LogStays]))
  refine call_intro (awake04_ok _) ?_
  rintro _ h ⟨rfl, hf⟩
  have S := S.frame hf
  (try simp (maxSteps := 1000000) (disch := first | omega | assumption | exact Nat.le_of_ble_eq_true rfl) only [go_sem, ↓mwp_block, simprocAttr])
  refine call_intro (few04_ok (ha.fr S.fr (by simp)) (by omega) (fun y hy => (hok y hy).len)) ?_
  rintro _ _ ⟨q, rfl, rfl, hq⟩
  cases q with
  | false =>
    (try simp (maxSteps := 1000000) (disch := first | omega | assumption | exact Nat.le_of_ble_eq_true rfl) only [go_sem, ↓mwp_block, simprocAttr])
    refine call_intro (awake04_ok _) ?_
    rintro _ h ⟨rfl, hf⟩
    (try simp (maxSteps := 1000000) (disch := first | omega | assumption | exact Nat.le_of_ble_eq_true rfl) only [go_sem, ↓mwp_block, simprocAttr])
    exact hK _ _ ⟨rfl, (S.frame hf).fr⟩
  | true =>
  have hq := hq rfl
  by_cases hl : 5000 < (img.length : Int)
  · (try simp (maxSteps := 1000000) (disch := first | omega | assumption | exact Nat.le_of_ble_eq_true rfl) only [go_sem, ↓mwp_block, simprocAttr, hl])
    refine call_intro (awake04_ok _) ?_
    rintro _ h ⟨rfl, hf⟩
    (try simp (maxSteps := 1000000) (disch := first | omega | assumption | exact Nat.le_of_ble_eq_true rfl) only [go_sem, ↓mwp_block, simprocAttr])
    exact hK _ _ ⟨rfl, (S.frame hf).fr⟩
  (try simp (maxSteps := 1000000) (disch := first | omega | assumption | exact Nat.le_of_ble_eq_true rfl) only [go_sem, ↓mwp_block, simprocAttr, hl])
  refine call_intro (New_ok cap S) ?_
  clear S hf
  rintro _ h (⟨hn0, hn1, d, rfl, S⟩ | ⟨_, rfl, S⟩)
  case inr =>
    (try simp (maxSteps := 1000000) (disch := first | omega | assumption | exact Nat.le_of_ble_eq_true rfl) only [go_sem, ↓mwp_block, simprocAttr])
    exact hK _ _ ⟨rfl, S.fr⟩
  have S : St h0 h (diskA d (dk0 cap) :: []) := S
  (try simp (maxSteps := 1000000) (disch := first | omega | assumption | exact Nat.le_of_ble_eq_true rfl) only [go_sem, ↓mwp_block, simprocAttr])
  have w11 : IntKind.i64.wrap ((img.length : Int) + 11) = img.length + 11 := wrap_i64 (by omega) (by omega)
  refine call_intro (Create_ok (img := img) (dk0_ok ⟨hn0, hn1⟩) rfl (find0 _) S (fun h' S => hai.fr S.fr (by simp)) (by omega)) ?_
  clear S
  have h4 : ¬ 60000 < img.length + 4 := by omega
  by_cases h11 : cap < (11 + img.length : Nat)
  · rw [create_full h4 h11]
    rintro _ h (⟨hn, _⟩ | ⟨_, rfl, S⟩)
    · cases hn
    have h11' : cap < (img.length : Int) + 11 := by omega
    (try simp (maxSteps := 1000000) (disch := first | omega | assumption | exact Nat.le_of_ble_eq_true rfl) only [go_sem, ↓mwp_block, simprocAttr, w11, h11'])
    exact hK _ _ ⟨rfl, S.fr⟩
  rw [create_ok h4 h11]
  rintro _ h (⟨_, p, rfl, S⟩ | ⟨hn, _⟩)
  case inr => exact absurd rfl hn
  simp only at S
  obtain ⟨hkp, hwf⟩ := dk1_keeps (cap := cap) (img := img) (by omega)
  have okd : (dk1 cap (headF 1 img)).ok := dk1_ok ⟨by omega, by omega⟩ (by rw [headF_len]; omega)
  have hlo : (dk1 cap (headF 1 img)).lost = false := rfl
  generalize dk1 cap (headF 1 img) = D at *
  have hlov : (⟨1, 1, img, [], false⟩ : Lg).over = false := rfl
  have hlimg : ((⟨1, 1, img, [], false⟩ : Lg).img, (⟨1, 1, img, [], false⟩ : Lg).recs) = (img, []) := rfl
  have hfew : (⟨1, 1, img, [], false⟩ : Lg).recs.length < 1000000 := by simp
  generalize (⟨1, 1, img, [], false⟩ : Lg) = L at *
  (try simp (maxSteps := 1000000) (disch := first | omega | assumption | exact Nat.le_of_ble_eq_true rfl) only [go_sem, ↓mwp_block, simprocAttr, zerosL])
  (refine st_alloc S ?_; clear S; intro b h S; (try simp only [splice_cons, splice_nil, List.set_cons_zero, List.set_cons_succ, Nat.zero_add, Nat.reduceAdd, List.cons_append, List.nil_append] at S); ((try clear F); have F := S.all; (try simp only [all_cons, all_nil, says_cell, and_true] at F)))
  clear F
  have S : St h0 h (ownA Bz.enc 1 23 (.slice (some ⟨b, 0, none⟩) 0 0) [] :: _) := S.cellOwn (enc := Bz.enc) (ys := []) bz_len rfl (by simp)
  have S : St h0 h (logA p d L :: diskA d D :: ([(Value.slice (some ⟨b, 0, none⟩) 0 0, ([] : List Bz))].map hA ++ [])) := by
    show St h0 h (logA p d L :: diskA d D :: ownA Bz.enc 1 23 (.slice (some ⟨b, 0, none⟩) 0 0) [] :: [])
    (refine St.perm S ?_; repeat (with_reducible first | exact List.Perm.refl _ | refine pm0 ?_ | refine pm1 ?_ | refine pm2 ?_ | refine pm3 ?_ | refine pm4 ?_ | refine pm5 ?_ | refine pm6 ?_ | refine pm7 ?_ | refine pm8 ?_ | refine pm9 ?_ | refine pm10 ?_ | refine pm11 ?_ | refine pm12 ?_))
  have now : Now h0 [(Value.slice (some ⟨b, 0, none⟩) 0 0, ([] : List Bz))] D L (.slice Ai img.length ci) (.slice (some ⟨b, 0, none⟩) 0 0) (.slice Ai img.length ci) (.slice (some ⟨b, 0, none⟩) 0 0) (img, []) (img, []) := by
    have hi : Img h0 (.slice Ai img.length ci) img := ⟨Ai, ci, rfl, hai, by omega⟩
    have hr : Rcs h0 [(Value.slice (some ⟨b, 0, none⟩) 0 0, ([] : List Bz))] (.slice (some ⟨b, 0, none⟩) 0 0) [] := ⟨[], by simp, rfl, by simp, by simp⟩
    refine ⟨okd, hwf, hfew, hi, hr, hi, hr, ?_, by rw [hlo, hlov], fun _ => ⟨hkp, hlimg⟩⟩
    have := keeps_reach (B := (img, [])) okd.len hwf hkp
    rw [hlimg] at this
    exact this
  (try simp (maxSteps := 1000000) (disch := first | omega | assumption | exact Nat.le_of_ble_eq_true rfl) only [go_sem, ↓mwp_block, simprocAttr])
  refine loop_intro (fun ρ h' => ρ 2 = .slice A xs.length c ∧ ρ 7 = .pointer (some ⟨d, 0, none⟩) ∧ ρ 67 = .int .i64 xs.length ∧ ∃ (i p : Nat) (G : List (Value × List Bz)) (D : Dk) (L : Lg) (W R N M : Value) (A B : List UInt8 × List (List UInt8)) (l : List HP),
    ρ 68 = .int .i64 i ∧ i ≤ xs.length ∧ ρ 9 = .pointer (some ⟨p, 0, none⟩) ∧ ρ 10 = W ∧ ρ 11 = R ∧ ρ 12 = N ∧ ρ 13 = M ∧ Now h0 G D L W R N M A B ∧ St h0 h' (logA p d L :: diskA d D :: (G.map hA ++ l))) (fun ρ _ => xs.length - (iv (ρ 68)).toNat) ?_ ?_
  · (try simp (maxSteps := 1000000) (disch := first | omega | assumption | exact Nat.le_of_ble_eq_true rfl) only [go_sem, ↓mwp_block, simprocAttr])
    exact ⟨0, p, _, _, _, _, _, _, _, _, _, _, rfl, by omega, rfl, rfl, rfl, rfl, rfl, now, S⟩
  clear S now okd hkp hwf hlo hlov hlimg hfew h11 h4 hl w11 hn0 hn1
  rintro ρ h J hJ ⟨e2, e7, e67, i, p, G, D, L, W, R, N, M, IA, IB, l, e68, hi, e9, e10, e11, e12, e13, now, S⟩
  (try simp (maxSteps := 1000000) (disch := first | omega | assumption | exact Nat.le_of_ble_eq_true rfl) only [go_sem, ↓mwp_block, simprocAttr, e67, e68])
  refine cond_dec (fun hg => ?_) (fun hg => ?_)
  case refine_2 =>
    (try simp (maxSteps := 1000000) (disch := first | omega | assumption | exact Nat.le_of_ble_eq_true rfl) only [go_sem, ↓mwp_block, simprocAttr])
    exact hK _ _ ⟨rfl, S.fr⟩
  have hi' : i < xs.length := by omega
  obtain ⟨bb, off, rfl, hr⟩ := (ha.fr S.fr (by simp)).at hi'
  have hy := hok _ (List.getElem_mem hi')
  have hq := hq _ (List.getElem_mem hi')
  generalize xs[i] = y at hr hy hq
  obtain ⟨yk, yn, yarr, ylen, yks⟩ := hy
  (try simp (maxSteps := 1000000) (disch := first | omega | assumption | exact Nat.le_of_ble_eq_true rfl) only [go_sem, ↓mwp_block, simprocAttr, e2, e68, hr, Op4.enc])
  (refine st_alloc S ?_; clear S; intro q h S; (try simp only [splice_cons, splice_nil, List.set_cons_zero, List.set_cons_succ, Nat.zero_add, Nat.reduceAdd, List.cons_append, List.nil_append] at S); ((try clear F); have F := S.all; (try simp only [all_cons, all_nil, says_cell, and_true] at F)))
  (try simp (maxSteps := 1000000) (disch := first | omega | assumption | exact Nat.le_of_ble_eq_true rfl) only [go_sem, ↓mwp_block, simprocAttr, F])
  (refine st_store (by first | exact S | exact S.p1 | exact S.p2 | exact S.p3 | exact S.p4 | exact S.p5 | exact S.p6 | exact S.p7 | exact S.p8 | exact S.p9 | exact S.p10 | exact S.p11) (by rfl) (by rfl) (Nat.le_of_ble_eq_true rfl) ?_; clear S; intro h S; (try simp only [splice_cons, splice_nil, List.set_cons_zero, List.set_cons_succ, Nat.zero_add, Nat.reduceAdd, List.cons_append, List.nil_append] at S); ((try clear F); have F := S.all; (try simp only [all_cons, all_nil, says_cell, and_true] at F)))
  (try simp (maxSteps := 1000000) (disch := first | omega | assumption | exact Nat.le_of_ble_eq_true rfl) only [go_sem, ↓mwp_block, simprocAttr, F])
  have hIy : Img h0 (.slice y.A y.ys.length y.c) y.ys := ⟨y.A, y.c, rfl, yarr, by omega⟩
  have hnext : ∀ {ρ' : Env} {h' : Heap} {p' : Nat} {G' : List (Value × List Bz)} {D' : Dk} {L' : Lg} {W' R' N' M' : Value} {A' B' : List UInt8 × List (List UInt8)} {l' : List HP}, ρ' 2 = ρ 2 → ρ' 7 = ρ 7 → ρ' 67 = ρ 67 → ρ' 68 = .int .i64 ((i : Int) + 1) → ρ' 9 = .pointer (some ⟨p', 0, none⟩) → ρ' 10 = W' → ρ' 11 = R' → ρ' 12 = N' → ρ' 13 = M' →
      Now h0 G' D' L' W' R' N' M' A' B' → St h0 h' (logA p' d L' :: diskA d D' :: (G'.map hA ++ l')) → J ρ' h' := by
    intro ρ' h' p' G' D' L' W' R' N' M' A' B' l' g2 g7 g67 g68 g9 g10 g11 g12 g13 now' S'
    refine hJ _ _ ?_ ?_
    · rw [g2, g7, g67]
      exact ⟨e2, e7, e67, i + 1, p', G', D', L', W', R', N', M', A', B', l', g68, by omega, g9, g10, g11, g12, g13, now', S'⟩
    · (try simp (maxSteps := 1000000) (disch := first | omega | assumption | exact Nat.le_of_ble_eq_true rfl) only [go_sem, ↓mwp_block, simprocAttr, g68, e68])
      omega
  clear hJ
  by_cases hk6 : y.k = 6
  · (try simp (maxSteps := 1000000) (disch := first | omega | assumption | exact Nat.le_of_ble_eq_true rfl) only [go_sem, ↓mwp_block, simprocAttr, F, hk6, e7])
    refine call_intro (Fuse_ok _ S.p2) ?_
    clear S F
    rintro _ h ⟨rfl, S⟩
    (try simp (maxSteps := 1000000) (disch := first | omega | assumption | exact Nat.le_of_ble_eq_true rfl) only [go_sem, ↓mwp_block, simprocAttr, e68])
    have hm0 : 0 ≤ ((if 0 > y.n then 0 else y.n) : Int).tmod 30 ∧ ((if 0 > y.n then 0 else y.n) : Int).tmod 30 < 30 := by
      have h0 : 0 ≤ ((if 0 > y.n then 0 else y.n) : Int) := by split <;> omega
      exact ⟨Int.tmod_nonneg _ h0, Int.tmod_lt_of_pos _ (by decide)⟩
    exact hnext rfl rfl rfl rfl e9 e10 e11 e12 e13 (now.fuse hm0.1 (by omega)) S.d1.p1
  by_cases hk7 : 6 < y.k
  · (try simp (maxSteps := 1000000) (disch := first | omega | assumption | exact Nat.le_of_ble_eq_true rfl) only [go_sem, ↓mwp_block, simprocAttr, F, hk6, hk7, e7])
    refine call_intro (Restart_ok y.K.l rfl yks S.p2 now.ok) ?_
    clear S F
    rintro _ h S
    obtain ⟨L1, w1, o1, lk1, hab, ok1, hf1, ok2, lo2, fu2, kp2⟩ := now.reach.opened now.ok (ks := y.K.l) rfl
    (try simp (maxSteps := 1000000) (disch := first | omega | assumption | exact Nat.le_of_ble_eq_true rfl) only [go_sem, ↓mwp_block, simprocAttr, e7])
    refine call_intro (Open_ok ok1 rfl (by show ¬ ((-1 : Int) = 0); decide) S) ?_
    clear S
    rw [hf1]
    have hne0 : L1 ≠ lg0 := fun hx => by
      have := w1.file
      rw [hx] at this
      exact absurd this (by decide)
    rintro _ h (⟨hx, _⟩ | ⟨_, p1, rfl, S⟩)
    · exact (hne0 hx).elim
    generalize openD (restartD D y.K.l) = D2 at *
    clear ok1 hf1
    (try simp (maxSteps := 1000000) (disch := first | omega | assumption | exact Nat.le_of_ble_eq_true rfl) only [go_sem, ↓mwp_block, simprocAttr, e10, e11, e9])
    refine call_intro (SameIR_ok lk1 S ⟨[diskA d D2, cellA q _ _, logA p d L], l, rfl⟩ now.was now.recs) ?_
    clear S
    rintro _ h ⟨rfl, S⟩
    (try simp (maxSteps := 1000000) (disch := first | omega | assumption | exact Nat.le_of_ble_eq_true rfl) only [go_sem, ↓mwp_block, simprocAttr])
    refine cond_cut (fun ρ' h' => ρ' 2 = ρ 2 ∧ ρ' 7 = ρ 7 ∧ ρ' 67 = ρ 67 ∧ ρ' 68 = ρ 68 ∧ ρ' 16 = .pointer (some ⟨p1, 0, none⟩) ∧ ∃ W' R', ρ' 10 = W' ∧ ρ' 11 = R' ∧ Img h0 W' L1.img ∧ Rcs h0 G R' L1.recs ∧
      St h0 h' (logA p1 d L1 :: diskA d D2 :: cellA q [.int .u8 y.k, .int .i64 y.n, .slice y.A y.ys.length y.c, .int .i64 y.K.k0, .int .i64 y.K.k1, .int .i64 y.K.k2, .int .i64 y.K.k3, .int .i64 y.K.k4, .int .i64 y.K.k5, .int .i64 y.K.k6, .int .i64 y.K.k7] 91 :: logA p d L :: (G.map hA ++ l))) ?_ ?_ ?_
    · intro hb J hJ
      have hns : ¬ (L1.img = IA.1 ∧ L1.recs = IA.2) := of_dcd_false (by simpa using hb)
      have hB : (L1.img, L1.recs) = IB := hab.resolve_left fun hx => hns (by rw [← hx]; exact ⟨rfl, rfl⟩)
      have hB1 : L1.img = IB.1 ∧ L1.recs = IB.2 := by rw [← hB]; exact ⟨rfl, rfl⟩
      (try simp (maxSteps := 1000000) (disch := first | omega | assumption | exact Nat.le_of_ble_eq_true rfl) only [go_sem, ↓mwp_block, simprocAttr, e12, e13])
      refine call_intro (SameIR_ok lk1 S ⟨[diskA d D2, cellA q _ _, logA p d L], l, rfl⟩ now.next now.more) ?_
      clear S
      rintro _ h ⟨rfl, S⟩
      rw [dcd_true hB1]
      (try simp (maxSteps := 1000000) (disch := first | omega | assumption | exact Nat.le_of_ble_eq_true rfl) only [go_sem, ↓mwp_block, simprocAttr])
      refine hJ _ _ ?_
      (try simp (maxSteps := 1000000) (disch := first | omega | assumption | exact Nat.le_of_ble_eq_true rfl) only [go_sem, ↓mwp_block, simprocAttr, e12, e13])
      refine ⟨N, M, rfl, rfl, ?_, ?_, S⟩
      · rw [hB1.1]; exact now.next
      · rw [hB1.2]; exact now.more
    · intro hb J hJ
      have hns : L1.img = IA.1 ∧ L1.recs = IA.2 := of_dcd_true (by simpa using hb)
      (try simp (maxSteps := 1000000) (disch := first | omega | assumption | exact Nat.le_of_ble_eq_true rfl) only [go_sem, ↓mwp_block, simprocAttr])
      refine hJ _ _ ?_
      (try simp (maxSteps := 1000000) (disch := first | omega | assumption | exact Nat.le_of_ble_eq_true rfl) only [go_sem, ↓mwp_block, simprocAttr, e10, e11])
      refine ⟨W, R, rfl, rfl, ?_, ?_, S⟩
      · rw [hns.1]; exact now.was
      · rw [hns.2]; exact now.recs
    clear S
    rintro ρ' h ⟨g2, g7, g67, g68, g16, W', R', g10, g11, hW', hR', S⟩
    (try simp (maxSteps := 1000000) (disch := first | omega | assumption | exact Nat.le_of_ble_eq_true rfl) only [go_sem, ↓mwp_block, simprocAttr, g7, e7])
    obtain ⟨hf2, kp3, lo3⟩ := kp2.again ok2 w1 o1 lo2 fu2
    have ok3 := openD_ok ok2
    refine call_intro (Open_ok ok2 lo2 (by rw [fu2]; decide) S.p1) ?_
    clear S
    rw [hf2]
    rintro _ h (⟨hx, _⟩ | ⟨_, p2, rfl, S⟩)
    · exact (hne0 hx).elim
    generalize openD D2 = D3 at *
    clear hf2
    (try simp (maxSteps := 1000000) (disch := first | omega | assumption | exact Nat.le_of_ble_eq_true rfl) only [go_sem, ↓mwp_block, simprocAttr, g10, g11, g16])
    refine call_intro (SameIR_ok lk1 S ⟨[diskA d D3, logA p1 d L1, cellA q _ _, logA p d L], l, rfl⟩ hW' hR') ?_
    clear S
    rintro _ h ⟨rfl, S⟩
    rw [dcd_true ⟨rfl, rfl⟩]
    (try simp (maxSteps := 1000000) (disch := first | omega | assumption | exact Nat.le_of_ble_eq_true rfl) only [go_sem, ↓mwp_block, simprocAttr, g68, e68])
    have S : St h0 h (logA p1 d L1 :: diskA d D3 :: (G.map hA ++ l)) := S.tl.p1.p2.tl.p2.tl
    refine hnext (A' := (L1.img, L1.recs)) (B' := (L1.img, L1.recs)) g2 g7 g67 ?_ ?_ ?_ ?_ ?_ ?_ ⟨ok3, w1, lk1.len, hW', hR', hW', hR', keeps_reach ok3.len w1 kp3, by rw [lo3, o1], fun _ => ⟨kp3, rfl⟩⟩ S
    all_goals (try simp (maxSteps := 1000000) (disch := first | omega | assumption | exact Nat.le_of_ble_eq_true rfl) only [go_sem, ↓mwp_block, simprocAttr, g68, e68, g16, g10, g11])
  (try simp (maxSteps := 1000000) (disch := first | omega | assumption | exact Nat.le_of_ble_eq_true rfl) only [go_sem, ↓mwp_block, simprocAttr, F, hk6, hk7, e9])
  refine call_intro (OverL_ok S.p1) ?_
  rintro _ _ ⟨rfl, rfl⟩
  cases hov : L.over with
  | true =>
    (try simp (maxSteps := 1000000) (disch := first | omega | assumption | exact Nat.le_of_ble_eq_true rfl) only [go_sem, ↓mwp_block, simprocAttr, F, e9])
    refine call_intro (AppendL_ok (b := y.ys) now.ok now.few (S.p2.p2) (fun h' S' => yarr.fr S'.fr (by simp)) (by omega)) ?_
    clear S F
    have ha1 : appendL D L y.ys = (D, L, 6) := by rw [appendL, if_pos hov]
    rw [ha1]
    rintro _ h ⟨rfl, S⟩
    ((try clear F); have F := S.all; (try simp only [all_cons, all_nil, says_cell, and_true] at F))
    (try simp (maxSteps := 1000000) (disch := first | omega | assumption | exact Nat.le_of_ble_eq_true rfl) only [go_sem, ↓mwp_block, simprocAttr, F, e9])
    refine call_intro (CompactL_ok (D := D) (L := L) (img := y.ys) now.ok ⟨by have := now.wf.gen; omega, by have := now.wf.gen; omega⟩ (by rcases now.wf.file with h | h <;> rw [h] <;> exact ⟨by decide, by decide⟩) S (fun h' S' => yarr.fr S'.fr (by simp)) (by omega)) ?_
    clear S F
    have ha2 : compactL D L y.ys = (D, L, 6) := by rw [compactL, if_pos hov]
    rw [ha2]
    rintro _ h ⟨rfl, S⟩
    (try simp (maxSteps := 1000000) (disch := first | omega | assumption | exact Nat.le_of_ble_eq_true rfl) only [go_sem, ↓mwp_block, simprocAttr, e68])
    exact hnext rfl rfl rfl rfl e9 e10 e11 e12 e13 now S.p2.tl
  | false =>
  obtain ⟨kp, hIA⟩ := now.live hov
  have hlo : D.lost = false := by rw [now.same, hov]
  have hrs := few_recs now.ok kp now.wf
  (try simp (maxSteps := 1000000) (disch := first | omega | assumption | exact Nat.le_of_ble_eq_true rfl) only [go_sem, ↓mwp_block, simprocAttr, F])
  refine cond_cut (fun ρ' h' => ρ' 2 = ρ 2 ∧ ρ' 7 = ρ 7 ∧ ρ' 67 = ρ 67 ∧ ρ' 68 = ρ 68 ∧ ρ' 9 = ρ 9 ∧ ρ' 10 = ρ 10 ∧ ρ' 11 = ρ 11 ∧ ρ' 12 = ρ 12 ∧ ρ' 13 = ρ 13 ∧ ∃ (e : Int) (D' : Dk) (L' : Lg) (im al : Value) (G' : List (Value × List Bz)) (B' : List UInt8 × List (List UInt8)) (l' : List HP), ρ' 8 = .int .i64 e ∧ ρ' 19 = im ∧ ρ' 20 = al ∧
    D'.ok ∧ Left D' L L' e IA B' ∧ L'.recs.length < 1000000 ∧ Img h0 im B'.1 ∧ Rcs h0 G' al B'.2 ∧ (∀ x ∈ G, x ∈ G') ∧ St h0 h' (logA p d L' :: diskA d D' :: (G'.map hA ++ l'))) ?_ ?_ ?_
  · intro hb J hJ
    (try simp (maxSteps := 1000000) (disch := first | omega | assumption | exact Nat.le_of_ble_eq_true rfl) only [go_sem, ↓mwp_block, simprocAttr, F, e9])
    refine call_intro (AppendL_ok (b := y.ys) now.ok now.few (S.p2.p2) (fun h' S' => yarr.fr S'.fr (by simp)) (by omega)) ?_
    clear S F
    rintro _ h ⟨rfl, S⟩
    have hleft := append_left (b := y.ys) now.ok now.wf hlo hov kp
    have okn := appL_okn now.ok L y.ys
    have hrn := appL_recs D L y.ys
    rw [hIA] at hleft
    generalize appendL D L y.ys = R1 at *
    obtain ⟨D', L', e⟩ := R1
    simp only at S hleft okn hrn ⊢
    obtain ⟨AR, cR, zs, rfl, hz, hzl, hzz, hmem, hrl⟩ := now.recs.rl (L := [logA p d L', diskA d D', cellA q _ _]) S
    have hq2 := st_rd1 (off := 2) S.p2
    simp only [List.getElem?_cons_succ, List.getElem?_cons_zero] at hq2
    have rx : ∀ K t, readT (fun h' => rd1 h' (.pointer (some ⟨q, 2, none⟩)) = some (.slice y.A y.ys.length y.c)) (fun h' => rd1 h' (.pointer (some ⟨q, 2, none⟩))) K t = K (.slice y.A y.ys.length y.c) := fun K t => readT_v _ hq2
    (try simp (maxSteps := 1000000) (disch := first | omega | assumption | exact Nat.le_of_ble_eq_true rfl) only [go_sem, ↓mwp_block, simprocAttr])
    refine draw_inv (fun h' => rd1 h' (.pointer (some ⟨q, 2, none⟩)) = some (.slice y.A y.ys.length y.c)) hq2 ?_
    (try simp (maxSteps := 1000000) (disch := first | omega | assumption | exact Nat.le_of_ble_eq_true rfl) only [go_sem, ↓mwp_block, simprocAttr, e10, e11, rx, zerosL])
    have hI2 : ∀ {h' : Heap} {l' : List HP}, St h0 h' (cellA q [.int .u8 y.k, .int .i64 y.n, .slice y.A y.ys.length y.c, .int .i64 y.K.k0, .int .i64 y.K.k1, .int .i64 y.K.k2, .int .i64 y.K.k3, .int .i64 y.K.k4, .int .i64 y.K.k5, .int .i64 y.K.k6, .int .i64 y.K.k7] 91 :: l') → rd1 h' (.pointer (some ⟨q, 2, none⟩)) = some (.slice y.A y.ys.length y.c) := fun S' => st_rd1 (off := 2) S'
    have hrs2 : zs.length < 200001 := by
      have : zs.length = L.recs.length := by rw [← List.length_map (f := Bz.ys), hz, ← hIA]
      omega
    have fin : ∀ {ρ' : Env} {v : Value} {h' : Heap} {l' : List HP}, (ρ' 2 = ρ 2 ∧ ρ' 7 = ρ 7 ∧ ρ' 67 = ρ 67 ∧ ρ' 68 = ρ 68 ∧ ρ' 9 = ρ 9 ∧ ρ' 10 = ρ 10 ∧ ρ' 11 = ρ 11 ∧ ρ' 12 = ρ 12 ∧ ρ' 13 = ρ 13 ∧ ρ' 8 = .int .i64 e ∧ ρ' 19 = W ∧ ρ' 20 = v) → St h0 h' (ownA Bz.enc 1 23 v (zs ++ [⟨y.A, y.c, y.ys⟩]) :: logA p d L' :: diskA d D' :: (G.map hA ++ l')) → J ρ' h' := by
      rintro ρ' v h' l' ⟨g2, g7, g67, g68, g9, g10, g11, g12, g13, g8, g19, g20⟩ S'
      refine hJ _ _ ⟨g2, g7, g67, g68, g9, g10, g11, g12, g13, e, D', L', W, v, (v, zs ++ [⟨y.A, y.c, y.ys⟩]) :: G, (L.img, L.recs ++ [y.ys]), l', g8, g19, g20, okn, hleft, by omega, ?_, ?_, fun x hx => List.mem_cons_of_mem _ hx, ?_⟩
      · have := now.was
        rw [← hIA] at this
        exact this
      · refine ⟨zs ++ [⟨y.A, y.c, y.ys⟩], List.mem_cons_self .., ?_, by rw [List.length_append]; simp; omega, ?_⟩
        · rw [List.map_append, hz, ← hIA]
          rfl
        · intro z hz
          rcases List.mem_append.1 hz with hz | hz
          · exact hzz z hz
          · simp at hz
            subst hz
            exact ⟨yarr, by show y.ys.length < _; omega⟩
      · exact S'.p2.p2
    clear hJ
    refine ⟨?_, ?_⟩
    · (refine st_alloc S ?_; clear S; intro b1 h S; (try simp only [splice_cons, splice_nil, List.set_cons_zero, List.set_cons_succ, Nat.zero_add, Nat.reduceAdd, List.cons_append, List.nil_append] at S); ((try clear F); have F := S.all; (try simp only [all_cons, all_nil, says_cell, and_true] at F)))
      refine ⟨hI2 S.p3, ?_⟩
      (try simp (maxSteps := 1000000) (disch := first | omega | assumption | exact Nat.le_of_ble_eq_true rfl) only [go_sem, ↓mwp_block, simprocAttr])
      have S : St h0 h (ownA Bz.enc 1 23 (.slice (some ⟨b1, 0, none⟩) 0 0) [] :: _) := S.cellOwn (enc := Bz.enc) (ys := []) bz_len rfl (by simp)
      refine ⟨?_, ?_⟩
      · refine st_append (bytes := 24) (ys := zs) bz_len (by omega) bz_plain rfl S rfl (src_arr bz_len (hrl h [_, _, _, _] l S).arr rfl) (by simp; omega) (by simp; omega) ?_
        clear S F
        intro v1 h S
        refine ⟨hI2 S.p3, ?_⟩
        (try simp (maxSteps := 1000000) (disch := first | omega | assumption | exact Nat.le_of_ble_eq_true rfl) only [go_sem, ↓mwp_block, simprocAttr])
        (refine st_alloc S ?_; clear S; intro b2 h S; (try simp only [splice_cons, splice_nil, List.set_cons_zero, List.set_cons_succ, Nat.zero_add, Nat.reduceAdd, List.cons_append, List.nil_append] at S); ((try clear F); have F := S.all; (try simp only [all_cons, all_nil, says_cell, and_true] at F)))
        (try simp (maxSteps := 1000000) (disch := first | omega | assumption | exact Nat.le_of_ble_eq_true rfl) only [go_sem, ↓mwp_block, simprocAttr])
        refine st_append1 (bytes := 24) (x := (⟨y.A, y.c, y.ys⟩ : Bz)) bz_len (by omega) bz_plain rfl rfl S (by first | omega | (simp; omega)) (by first | omega | (simp; omega)) ?_
        clear S F
        intro v2 h S
        (try simp (maxSteps := 1000000) (disch := first | omega | assumption | exact Nat.le_of_ble_eq_true rfl) only [go_sem, ↓mwp_block, simprocAttr])
        refine fin ?_ S.p3.tl
        (try simp (maxSteps := 1000000) (disch := first | omega | assumption | exact Nat.le_of_ble_eq_true rfl) only [go_sem, ↓mwp_block, simprocAttr])
      · (refine st_alloc S ?_; clear S; intro b2 h S; (try simp only [splice_cons, splice_nil, List.set_cons_zero, List.set_cons_succ, Nat.zero_add, Nat.reduceAdd, List.cons_append, List.nil_append] at S); ((try clear F); have F := S.all; (try simp only [all_cons, all_nil, says_cell, and_true] at F)))
        (try simp (maxSteps := 1000000) (disch := first | omega | assumption | exact Nat.le_of_ble_eq_true rfl) only [go_sem, ↓mwp_block, simprocAttr])
        refine st_append (bytes := 24) (ys := zs) bz_len (by omega) bz_plain rfl S.p1 rfl (src_arr bz_len (hrl h [_, _, _, _, _] l S).arr rfl) (by simp; omega) (by simp; omega) ?_
        clear S F
        intro v1 h S
        refine ⟨hI2 S.p4, ?_⟩
        (try simp (maxSteps := 1000000) (disch := first | omega | assumption | exact Nat.le_of_ble_eq_true rfl) only [go_sem, ↓mwp_block, simprocAttr])
        have S := S.p1
        refine st_append1 (bytes := 24) (x := (⟨y.A, y.c, y.ys⟩ : Bz)) bz_len (by omega) bz_plain rfl rfl S (by first | omega | (simp; omega)) (by first | omega | (simp; omega)) ?_
        clear S
        intro v2 h S
        (try simp (maxSteps := 1000000) (disch := first | omega | assumption | exact Nat.le_of_ble_eq_true rfl) only [go_sem, ↓mwp_block, simprocAttr])
        refine fin ?_ S.p3.tl
        (try simp (maxSteps := 1000000) (disch := first | omega | assumption | exact Nat.le_of_ble_eq_true rfl) only [go_sem, ↓mwp_block, simprocAttr])
    · (refine st_alloc S ?_; clear S; intro b2 h S; (try simp only [splice_cons, splice_nil, List.set_cons_zero, List.set_cons_succ, Nat.zero_add, Nat.reduceAdd, List.cons_append, List.nil_append] at S); ((try clear F); have F := S.all; (try simp only [all_cons, all_nil, says_cell, and_true] at F)))
      (try simp (maxSteps := 1000000) (disch := first | omega | assumption | exact Nat.le_of_ble_eq_true rfl) only [go_sem, ↓mwp_block, simprocAttr])
      (refine st_alloc S ?_; clear S; intro b1 h S; (try simp only [splice_cons, splice_nil, List.set_cons_zero, List.set_cons_succ, Nat.zero_add, Nat.reduceAdd, List.cons_append, List.nil_append] at S); ((try clear F); have F := S.all; (try simp only [all_cons, all_nil, says_cell, and_true] at F)))
      refine ⟨hI2 S.p4, ?_⟩
      (try simp (maxSteps := 1000000) (disch := first | omega | assumption | exact Nat.le_of_ble_eq_true rfl) only [go_sem, ↓mwp_block, simprocAttr])
      have S : St h0 h (ownA Bz.enc 1 23 (.slice (some ⟨b1, 0, none⟩) 0 0) [] :: _) := S.cellOwn (enc := Bz.enc) (ys := []) bz_len rfl (by simp)
      refine st_append (bytes := 24) (ys := zs) bz_len (by omega) bz_plain rfl S rfl (src_arr bz_len (hrl h [_, _, _, _, _] l S).arr rfl) (by simp; omega) (by simp; omega) ?_
      clear S F
      intro v1 h S
      refine ⟨hI2 S.p4, ?_⟩
      (try simp (maxSteps := 1000000) (disch := first | omega | assumption | exact Nat.le_of_ble_eq_true rfl) only [go_sem, ↓mwp_block, simprocAttr])
      have S := S.p1
      refine st_append1 (bytes := 24) (x := (⟨y.A, y.c, y.ys⟩ : Bz)) bz_len (by omega) bz_plain rfl rfl S (by first | omega | (simp; omega)) (by first | omega | (simp; omega)) ?_
      clear S
      intro v2 h S
      (try simp (maxSteps := 1000000) (disch := first | omega | assumption | exact Nat.le_of_ble_eq_true rfl) only [go_sem, ↓mwp_block, simprocAttr])
      refine fin ?_ S.p3.tl
      (try simp (maxSteps := 1000000) (disch := first | omega | assumption | exact Nat.le_of_ble_eq_true rfl) only [go_sem, ↓mwp_block, simprocAttr])
  · intro hb J hJ
    (try simp (maxSteps := 1000000) (disch := first | omega | assumption | exact Nat.le_of_ble_eq_true rfl) only [go_sem, ↓mwp_block, simprocAttr, F, e9])
    refine call_intro (CompactL_ok (D := D) (L := L) (img := y.ys) now.ok ⟨by have := now.wf.gen; omega, by have := now.wf.gen; omega⟩ (by rcases now.wf.file with h | h <;> rw [h] <;> exact ⟨by decide, by decide⟩) S.p2.p2 (fun h' S' => yarr.fr S'.fr (by simp)) (by omega)) ?_
    clear S F
    rintro _ h ⟨rfl, S⟩
    have hleft := (compact_left (img := y.ys) now.ok now.wf hlo hov kp).1
    have okn := comL_okn now.ok L y.ys
    have hrn := comL_recs D L y.ys
    rw [hIA] at hleft
    generalize compactL D L y.ys = R1 at *
    obtain ⟨D', L', e⟩ := R1
    simp only at S hleft okn hrn ⊢
    (try simp (maxSteps := 1000000) (disch := first | omega | assumption | exact Nat.le_of_ble_eq_true rfl) only [go_sem, ↓mwp_block, simprocAttr])
    refine hJ _ _ ?_
    (try simp (maxSteps := 1000000) (disch := first | omega | assumption | exact Nat.le_of_ble_eq_true rfl) only [go_sem, ↓mwp_block, simprocAttr, e10, e11])
    refine ⟨e, D', L', _, _, (.slice none 0 0, []) :: G, (y.ys, []), l, rfl, rfl, rfl, okn, hleft, by omega, hIy, ⟨[], List.mem_cons_self .., rfl, by simp, by simp⟩, fun x hx => List.mem_cons_of_mem _ hx, ?_⟩
    have S : St h0 h (hA (.slice none 0 0, []) :: _) := S.nilS
    exact S.p3.tl.p2.p2
  clear S F
  rintro ρ' h ⟨g2, g7, g67, g68, g9, g10, g11, g12, g13, e, D', L', im, al, G', B', l', g8, g19, g20, okn, hleft, hrn, hIm, hAl, hG, S⟩
  by_cases he0 : e = 0
  · obtain ⟨kp', hlo', hov', hB⟩ := hleft.good he0
    have hlk := kp'.lok okn hleft.wf hov'
    (try simp (maxSteps := 1000000) (disch := first | omega | assumption | exact Nat.le_of_ble_eq_true rfl) only [go_sem, ↓mwp_block, simprocAttr, g8, he0, g19, g20, g9, e9])
    refine call_intro (SameIR_ok (recs := B'.2) (img := B'.1) hlk S ⟨[diskA d D'], l', rfl⟩ hIm hAl) ?_
    clear S
    rintro _ h ⟨rfl, S⟩
    rw [dcd_true (by rw [← hB]; exact ⟨rfl, rfl⟩)]
    (try simp (maxSteps := 1000000) (disch := first | omega | assumption | exact Nat.le_of_ble_eq_true rfl) only [go_sem, ↓mwp_block, simprocAttr, g68, e68])
    refine hnext (A' := B') (B' := IB) g2 g7 g67 ?_ ?_ ?_ ?_ ?_ ?_ ⟨okn, hleft.wf, hrn, hIm, hAl, now.next, now.more.mono hG, ?_, by rw [hlo', hov'], fun _ => ⟨kp', hB⟩⟩ S
    all_goals first | ((try simp (maxSteps := 1000000) (disch := first | omega | assumption | exact Nat.le_of_ble_eq_true rfl) only [go_sem, ↓mwp_block, simprocAttr, g68, e68, g9, e9, g12, g13, e12, e13]); done) | skip
    rw [← hB]
    exact keeps_reach okn.len hleft.wf kp'
  by_cases he6 : e = 6
  · obtain ⟨hov', hlo', hrc⟩ := hleft.gone he6
    (try simp (maxSteps := 1000000) (disch := first | omega | assumption | exact Nat.le_of_ble_eq_true rfl) only [go_sem, ↓mwp_block, simprocAttr, g8, he6, g19, g20, g9, e9])
    refine call_intro (OverL_ok S) ?_
    rintro _ _ ⟨rfl, rfl⟩
    rw [hov']
    (try simp (maxSteps := 1000000) (disch := first | omega | assumption | exact Nat.le_of_ble_eq_true rfl) only [go_sem, ↓mwp_block, simprocAttr, g7, e7])
    refine call_intro (Lost_ok S.p1) ?_
    rintro _ _ ⟨rfl, rfl⟩
    rw [hlo']
    (try simp (maxSteps := 1000000) (disch := first | omega | assumption | exact Nat.le_of_ble_eq_true rfl) only [go_sem, ↓mwp_block, simprocAttr, g68, e68])
    refine hnext (A' := IA) (B' := B') g2 g7 g67 ?_ ?_ ?_ ?_ ?_ ?_ ⟨okn, hleft.wf, hrn, now.was, now.recs.mono hG, hIm, hAl, hrc, by rw [hlo', hov'], fun hx => (by rw [hov'] at hx; cases hx)⟩ S
    all_goals first | ((try simp (maxSteps := 1000000) (disch := first | omega | assumption | exact Nat.le_of_ble_eq_true rfl) only [go_sem, ↓mwp_block, simprocAttr, g68, e68, g9, e9, g10, g11, e10, e11]); done) | skip
  obtain ⟨kp', hlo', hov', hB⟩ := hleft.none he0 he6
  have hlk := kp'.lok okn hleft.wf hov'
  (try simp (maxSteps := 1000000) (disch := first | omega | assumption | exact Nat.le_of_ble_eq_true rfl) only [go_sem, ↓mwp_block, simprocAttr, g8, he0, he6, g10, g11, g9, e9, e10, e11])
  refine call_intro (SameIR_ok (recs := IA.2) (img := IA.1) hlk S ⟨[diskA d D'], l', rfl⟩ now.was (now.recs.mono hG)) ?_
  clear S
  rintro _ h ⟨rfl, S⟩
  rw [dcd_true (by rw [← hB]; exact ⟨rfl, rfl⟩)]
  (try simp (maxSteps := 1000000) (disch := first | omega | assumption | exact Nat.le_of_ble_eq_true rfl) only [go_sem, ↓mwp_block, simprocAttr, g68, e68])
  refine hnext (A' := IA) (B' := IB) g2 g7 g67 ?_ ?_ ?_ ?_ ?_ ?_ ⟨okn, hleft.wf, hrn, now.was, now.recs.mono hG, now.next, now.more.mono hG, ?_, by rw [hlo', hov'], fun _ => ⟨kp', hB⟩⟩ S
  all_goals first | ((try simp (maxSteps := 1000000) (disch := first | omega | assumption | exact Nat.le_of_ble_eq_true rfl) only [go_sem, ↓mwp_block, simprocAttr, g68, e68, g9, e9, g10, g11, e10, e11, g12, g13, e12, e13]); done) | skip
  rw [← hB]
  exact keeps_reach okn.len hleft.wf kp'
theorem LogStays_ok (cap : Int) (Ai : Option Addr) (ci : Nat) (img : List U8) (A : Option Addr) (c : Nat) (xs : List Op4) (h0 : Heap) (hcap : I64 cap) (hai : Arr U8.enc 1 h0 Ai img) (hci : img.length ≤ ci) (hci2 : ci ≤ maxLen) (_ : ∀ x ∈ img, x.ok) (ha : Arr Op4.enc 11 h0 A xs) (hc : xs.length ≤ c) (hc2 : c ≤ maxLen) (hok : ∀ x ∈ xs, x.ok h0) :
    CallsH Try.prog 14 [.int .i64 cap, .slice Ai img.length ci, .slice A xs.length c] h0 fun v h' => v = .bool true ∧ Fr h0 h' [] := by
  have := LogStays_ok' cap Ai ci (img.map U8.n) A c xs h0 hcap (arrU8 hai) (by simpa using hci) hci2 ha hc hc2 hok
  rwa [List.length_map] at this
end Go.Proofs.Ytnjjdpeglkiifaa.MX
