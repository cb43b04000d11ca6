/- Texts in one file: Lt2, Lu1, Fr12, Lu2. -/
import Derived.Test.YtnjjdpeglkiifaaK23
import Derived.Test.YtnjjdpeglkiifaaK24

/- The law LogStays: what holds between two acts. -/
namespace Go.Proofs.Ytnjjdpeglkiifaa.MX
open Go Go.Proofs
set_option linter.unusedSimpArgs false
set_option linter.unusedVariables false
set_option maxHeartbeats 4000000
/-- Slices of records that were made, and stay. -/
def hA (x : Value × List Bz) : HP := ownA Bz.enc 1 23 x.1 x.2
/-- An image, out of the arguments. -/
def Img (h0 : Heap) (W : Value) (bs : List UInt8) : Prop := ∃ A c, W = .slice A bs.length c ∧ Arr bEnc 1 h0 A bs ∧ bs.length < 1000000
/-- Records, out of the arguments, in a slice that stays. -/
def Rcs (h0 : Heap) (F : List (Value × List Bz)) (R : Value) (xs : List (List UInt8)) : Prop := ∃ zs, (R, zs) ∈ F ∧ zs.map Bz.ys = xs ∧ zs.length < 1000000 ∧ ∀ z ∈ zs, Arr bEnc 1 h0 z.A z.ys ∧ z.ys.length < 1000000000
theorem Rcs.mono {h0 : Heap} {F G : List (Value × List Bz)} {R : Value} {xs : List (List UInt8)} (h : Rcs h0 F R xs) (hs : ∀ x ∈ F, x ∈ G) : Rcs h0 G R xs := by
  obtain ⟨zs, h1, h2⟩ := h
  exact ⟨zs, hs _ h1, h2⟩
theorem Rcs.rl {h0 h : Heap} {F : List (Value × List Bz)} {R : Value} {xs : List (List UInt8)} {L l : List HP} (r : Rcs h0 F R xs) (S : St h0 h (L ++ (F.map hA ++ l))) :
    ∃ A c zs, R = .slice A zs.length c ∧ zs.map Bz.ys = xs ∧ zs.length < 1000000 ∧ (∀ z ∈ zs, Arr bEnc 1 h0 z.A z.ys ∧ z.ys.length < 1000000000) ∧ (R, zs) ∈ F ∧ ∀ h' (L' l' : List HP), St h0 h' (L' ++ (F.map hA ++ l')) → RL h' A zs := by
  obtain ⟨zs, h1, h2, h3, h4⟩ := r
  have hs := row_says (St.dropL S) _ h1
  obtain ⟨B, _, ho⟩ := hs
  have ho : Own Bz.enc 1 23 0 h R zs := ho
  obtain ⟨A, c, rfl⟩ := ho.slice
  refine ⟨A, c, zs, rfl, h2, h3, h4, h1, fun h' L' l' S' => ⟨?_, fun z hz => (h4 z hz).1.fr S'.fr (by simp)⟩⟩
  obtain ⟨B', _, ho'⟩ := row_says (St.dropL S') _ h1
  exact (ho'.arr bz_len).1
structure Now (h0 : Heap) (F : List (Value × List Bz)) (D : Dk) (L : Lg) (W R N M : Value) (A B : List UInt8 × List (List UInt8)) : Prop where
  ok : D.ok
  wf : L.wf
  few : L.recs.length < 1000000
  was : Img h0 W A.1
  recs : Rcs h0 F R A.2
  next : Img h0 N B.1
  more : Rcs h0 F M B.2
  reach : Reach D A B
  same : D.lost = L.over
  live : L.over = false → Keeps D L ∧ (L.img, L.recs) = A
theorem fuse_okM {D : Dk} (ok : D.ok) {m : Int} (h0 : 0 ≤ m) (h1 : m < 9223372036854775808) : (fuseD D m).1.ok := by
  unfold fuseD
  split
  · exact ok
  · split
    · exact ok
    · exact ⟨ok.len, ok.cap, ok.room, ⟨by simp only; omega, h1⟩, ok.safe⟩
theorem fuse_lost (D : Dk) (m : Int) : (fuseD D m).1.lost = D.lost := by unfold fuseD; split; · rfl
                                                                         split <;> rfl
theorem fuse_fs (D : Dk) (m : Int) : (fuseD D m).1.fs = D.fs ∧ (fuseD D m).1.cap = D.cap := by
  unfold fuseD
  split
  · exact ⟨rfl, rfl⟩
  · split <;> exact ⟨rfl, rfl⟩
theorem Now.fuse {h0 : Heap} {F : List (Value × List Bz)} {D : Dk} {L : Lg} {W R N M : Value} {A B : List UInt8 × List (List UInt8)} {m : Int} (n : Now h0 F D L W R N M A B) (h0' : 0 ≤ m) (h1 : m < 9223372036854775808) : Now h0 F (fuseD D m).1 L W R N M A B := by
  obtain ⟨e1, e2⟩ := fuse_fs D m
  have hfo : ∀ k, fileOf (fuseD D m).1 k = fileOf D k := fun k => by unfold fileOf; rw [e1]
  refine ⟨fuse_okM n.ok h0' h1, n.wf, n.few, n.was, n.recs, n.next, n.more, ?_, by rw [fuse_lost]; exact n.same, fun h => ?_⟩
  · intro ks hk
    have : restartD (fuseD D m).1 ks = restartD D ks := by unfold restartD; rw [e1, e2]
    rw [this]
    exact n.reach ks hk
  · obtain ⟨⟨k1, k2⟩, k3⟩ := n.live h
    exact ⟨⟨by rw [hfo]; exact k1, by rw [hfo]; exact k2⟩, k3⟩
/-- What a log is that is opened when the power comes back. -/
theorem Reach.opened {D : Dk} {A B : List UInt8 × List (List UInt8)} (ok : D.ok) (r : Reach D A B) {ks : List Int} (hk : ks.length = 8) :
    ∃ L : Lg, L.wf ∧ L.over = false ∧ L.ok ∧ ((L.img, L.recs) = A ∨ (L.img, L.recs) = B) ∧ (restartD D ks).ok ∧ findL (restartD D ks) = L ∧ (openD (restartD D ks)).ok ∧ (openD (restartD D ks)).lost = false ∧ (openD (restartD D ks)).fuse = -1 ∧ Keeps (openD (restartD D ks)) L := by
  obtain ⟨L, w, ho, ht, hab⟩ := r ks hk
  have ok1 := rest_ok ok hk
  have hL0 : ({ L with over := false } : Lg) = L := by rw [← ho]
  have hf := find_torn w ht
  rw [hL0] at hf
  obtain ⟨k1, k2, k3⟩ := open_torn w ok1.len rfl (by show ¬ ((-1 : Int) = 0); decide) ht
  exact ⟨L, w, ho, by rw [← hf]; exact find_lok _ ok1, hab, ok1, hf, openD_ok ok1, k2, k3 rfl, k1⟩
/-- Opened once more. -/
theorem Keeps.again {D : Dk} {L : Lg} (ok : D.ok) (w : L.wf) (ho : L.over = false) (hlo : D.lost = false) (hfu : D.fuse = -1) (k : Keeps D L) : findL D = L ∧ Keeps (openD D) L ∧ (openD D).lost = false := by
  have hL0 : ({ L with over := false } : Lg) = L := by rw [← ho]
  have hf := find_torn w k.torn
  rw [hL0] at hf
  obtain ⟨k1, k2, _⟩ := open_torn w ok.len hlo (by rw [hfu]; decide) k.torn
  exact ⟨hf, k1, k2⟩
theorem Keeps.lok {D : Dk} {L : Lg} (ok : D.ok) (w : L.wf) (ho : L.over = false) (k : Keeps D L) : L.ok := by
  have hL0 : ({ L with over := false } : Lg) = L := by rw [← ho]
  have hf := find_torn w k.torn
  rw [hL0] at hf
  rw [← hf]
  exact find_lok _ ok
theorem dk1_keeps {cap : Int} {img : List UInt8} (h : img.length + 4 ≤ 60000) : Keeps (dk1 cap (headF 1 img)) ⟨1, 1, img, [], false⟩ ∧ Lg.wf ⟨1, 1, img, [], false⟩ := by
  have hby : bytesOf ⟨1, 1, img, [], false⟩ = headF 1 img := by simp [bytesOf]
  refine ⟨⟨by rw [hby]; rfl, ?_⟩, ⟨.inl rfl, ⟨by show (1 : Int) ≤ 1; decide, by show (1 : Int) ≤ 2147483648; decide⟩, h, by simp⟩⟩
  intro f hf
  cases hf
end Go.Proofs.Ytnjjdpeglkiifaa.MX

/- The law LogTurns: a disk with one file. -/
namespace Go.Proofs.Ytnjjdpeglkiifaa.MX
open Go Go.Proofs
set_option linter.unusedSimpArgs false
set_option linter.unusedVariables false
set_option maxHeartbeats 4000000
/-- A disk whose only file is the n-th; all of it is safe. -/
def dkn (n : Int) (f : List UInt8) : Dk := ⟨1048576, if n = 1 then [none, some ⟨f, f.length⟩, none, none, none, none, none, none] else [none, none, some ⟨f, f.length⟩, none, none, none, none, none], -1, false⟩
theorem dkn_used {n : Int} {f : List UInt8} : used (dkn n f).fs = f.length := by
  unfold dkn used
  by_cases h : n = 1
  · rw [if_pos h]; simp [szF]
  · rw [if_neg h]; simp [szF]
theorem dkn_ok {n : Int} {f : List UInt8} (hf : f.length ≤ 1048576) : (dkn n f).ok := by
  refine ⟨?_, ⟨by show (0 : Int) ≤ 1048576; decide, by show (1048576 : Int) ≤ 1048576; decide⟩, by rw [dkn_used]; show (f.length : Int) ≤ 1048576; omega, by show (-1 : Int) ≤ -1 ∧ (-1 : Int) < 9223372036854775808; decide, ?_⟩
  · unfold dkn
    by_cases h : n = 1
    · simp only [if_pos h]; rfl
    · simp only [if_neg h]; rfl
  · intro g hg
    unfold dkn at hg
    by_cases h : n = 1
    · simp only [if_pos h] at hg
      simp at hg
      subst hg
      exact Nat.le_refl _
    · simp only [if_neg h] at hg
      simp at hg
      subst hg
      exact Nat.le_refl _
theorem dkn_file {n : Int} {f : List UInt8} (hn : n = 1 ∨ n = 2) : fileOf (dkn n f) n = some ⟨f, f.length⟩ ∧ fileOf (dkn n f) (3 - n) = none ∧ fileOf (dkn n f) 3 = none := by
  rcases hn with rfl | rfl <;> exact ⟨rfl, rfl, rfl⟩
theorem dkn_append {n : Int} {f b : List UInt8} (hn : n = 1 ∨ n = 2) (hr : f.length + (7 + b.length) ≤ 1048576) :
    appendD (dkn n f) n (frameOf b) = (⟨1048576, if n = 1 then [none, some ⟨f ++ frameOf b, f.length⟩, none, none, none, none, none, none] else [none, none, some ⟨f ++ frameOf b, f.length⟩, none, none, none, none, none], -1, false⟩, 0) := by
  have hcap : (dkn n f).cap = 1048576 := rfl
  have hfu : ¬ (dkn n f).fuse = 0 := by show ¬ ((-1 : Int) = 0); decide
  rw [appendD, ask_0 rfl (by rcases hn with rfl | rfl <;> decide), if_neg (by simp), dkn_used, hcap, frameOf_len, if_neg (by omega), if_neg hfu]
  rcases hn with rfl | rfl <;> rfl
theorem dkn_appendL {n g : Int} {img b : List UInt8} {rs : List (List UInt8)} (hn : n = 1 ∨ n = 2) (hr : (bytesOf ⟨n, g, img, rs, false⟩).length + (7 + b.length) ≤ 1048576) :
    ∃ e, appendL (dkn n (bytesOf ⟨n, g, img, rs, false⟩)) ⟨n, g, img, rs, false⟩ b = if b.length < 1 ∨ 4000 < b.length then (dkn n (bytesOf ⟨n, g, img, rs, false⟩), ⟨n, g, img, rs, false⟩, e) else (dkn n (bytesOf ⟨n, g, img, rs ++ [b], false⟩), ⟨n, g, img, rs ++ [b], false⟩, e) := by
  by_cases hb : b.length < 1 ∨ 4000 < b.length
  · refine ⟨4, ?_⟩
    rw [if_pos hb, appendL, if_neg (by simp), if_pos hb]
  refine ⟨0, ?_⟩
  rw [if_neg hb]
  have h1 := dkn_append (b := b) hn hr
  have hby : bytesOf ⟨n, g, img, rs ++ [b], false⟩ = bytesOf ⟨n, g, img, rs, false⟩ ++ frameOf b := by simp [bytesOf]
  rw [hby]
  have h2 : ∀ f, syncD ⟨1048576, if n = 1 then [none, some ⟨f ++ frameOf b, f.length⟩, none, none, none, none, none, none] else [none, none, some ⟨f ++ frameOf b, f.length⟩, none, none, none, none, none], -1, false⟩ n = (dkn n (f ++ frameOf b), 0) := fun f => by
    rcases hn with rfl | rfl <;> rfl
  rw [appendL, if_neg (by simp), if_neg hb]
  show (if (appendD _ n (frameOf b)).2 ≠ 0 then _ else _) = _
  simp only [h1, h2]
  rfl
theorem dkn_make {n : Int} {f f0 : List UInt8} (hn : n = 1 ∨ n = 2) (hr : f0.length + f.length ≤ 1048576) :
    ∃ D1, makeD (dkn n f0) n f = (D1, 0) ∧ (fileOf D1 n).isSome = true ∧ removeD D1 n = (dkn (3 - n) f, 0) := by
  have hcap : (dkn n f0).cap = 1048576 := rfl
  have hfu : ¬ (dkn n f0).fuse = 0 := by show ¬ ((-1 : Int) = 0); decide
  have h3 : fileOf (dkn n f0) 3 = none := (dkn_file hn).2.2
  have h1 : appendD (dkn n f0) 3 f = (⟨1048576, (dkn n f0).fs.set 3 (some ⟨f, 0⟩), -1, false⟩, 0) := by
    rw [appendD, ask_0 rfl (by decide), if_neg (by simp), dkn_used, hcap, if_neg (by omega), if_neg hfu, h3]
    rfl
  have h2 : syncD ⟨1048576, (dkn n f0).fs.set 3 (some ⟨f, 0⟩), -1, false⟩ 3 = (⟨1048576, (dkn n f0).fs.set 3 (some ⟨f, f.length⟩), -1, false⟩, 0) := by
    rcases hn with rfl | rfl <;> rfl
  have h4 : renameD ⟨1048576, (dkn n f0).fs.set 3 (some ⟨f, f.length⟩), -1, false⟩ 3 (3 - n) = (⟨1048576, [none, if n = 1 then some ⟨f0, f0.length⟩ else some ⟨f, f.length⟩, if n = 1 then some ⟨f, f.length⟩ else some ⟨f0, f0.length⟩, none, none, none, none, none], -1, false⟩, 0) := by
    have hq : fileOf ⟨1048576, (dkn n f0).fs.set 3 (some ⟨f, f.length⟩), -1, false⟩ 3 = some ⟨f, f.length⟩ := by rcases hn with rfl | rfl <;> rfl
    rw [renameD, ask_0 rfl (by decide), if_neg (by simp), ask_0 rfl (by rcases hn with rfl | rfl <;> decide), if_neg (by simp), hq, if_neg (by simp), if_neg (by simp; rcases hn with rfl | rfl <;> decide), if_neg (by show ¬ ((-1 : Int) = 0); decide)]
    rcases hn with rfl | rfl <;> rfl
  refine ⟨⟨1048576, [none, if n = 1 then some ⟨f0, f0.length⟩ else some ⟨f, f.length⟩, if n = 1 then some ⟨f, f.length⟩ else some ⟨f0, f0.length⟩, none, none, none, none, none], -1, false⟩, ?_, ?_, ?_⟩
  · rw [makeD, h3]
    simp only [Option.isSome_none, Bool.false_eq_true, false_and, if_false, h1, h2, h4, ne_eq, not_true_eq_false]
  · rcases hn with rfl | rfl <;> rfl
  · rcases hn with rfl | rfl <;> rfl
theorem dkn_compact {n g : Int} {img img0 : List UInt8} {rs : List (List UInt8)} (hn : n = 1 ∨ n = 2) (hg : g < 2147483648) (hi : img.length + 4 ≤ 60000) (hr : (bytesOf ⟨n, g, img0, rs, false⟩).length + (11 + img.length) ≤ 1048576) :
    compactL (dkn n (bytesOf ⟨n, g, img0, rs, false⟩)) ⟨n, g, img0, rs, false⟩ img = (dkn (3 - n) (bytesOf ⟨3 - n, g + 1, img, [], false⟩), ⟨3 - n, g + 1, img, [], false⟩, 0) := by
  have hby : bytesOf ⟨3 - n, g + 1, img, [], false⟩ = headF (g + 1) img := by simp [bytesOf]
  have hl := headF_len (g + 1) img
  obtain ⟨D1, h1, h2, h3⟩ := dkn_make (f := headF (g + 1) img) (f0 := bytesOf ⟨n, g, img0, rs, false⟩) hn (by rw [hl]; exact hr)
  have h4 : fileOf (dkn n (bytesOf ⟨n, g, img0, rs, false⟩)) 3 = none := (dkn_file hn).2.2
  have hcap : (dkn n (bytesOf ⟨n, g, img0, rs, false⟩)).cap = 1048576 := rfl
  rw [compactL, if_neg (by simp), if_neg (by omega), dkn_used, h4, hcap, if_neg (by simp [szF]; omega), hby]
  simp only [h1, h2, h3, ne_eq, not_true_eq_false, if_false, if_true]
  rfl
end Go.Proofs.Ytnjjdpeglkiifaa.MX

/- The law FrameBack. -/
namespace Go.Proofs.Ytnjjdpeglkiifaa.MX
open Go Go.Proofs
set_option linter.unusedSimpArgs false
set_option linter.unusedVariables false
set_option maxRecDepth 100000

/-- A slice of byte slices, as an argument. -/
structure Bz.ok (h : Heap) (z : Bz) : Prop where
  arr : Arr bEnc 1 h z.A z.ys
  le : z.ys.length ≤ z.c
  lt : z.c < 9223372036854775808
theorem bz_of {h : Heap} {d : Nat} {cs : List Value} (hg : Good Try.prog h d 23 cs) : ∃ z : Bz, cs = z.enc ∧ z.ok h := by
  have hl : leaves Try.prog 2 23 = some [.slice 5] := by kernel_rfl
  obtain ⟨v, _, rfl, g, rfl⟩ := leaves_of 2 hg hl
  obtain ⟨A, c, xs, rfl, ha, h1, h2, _⟩ := GoodS.arr (enc := U8.enc) (sz := 1) (by kernel_rfl) (by decide) g u8_of
  have hm : maxLen = 9223372036854775807 := rfl
  exact ⟨⟨A, c, xs.map U8.n⟩, by simp [Bz.enc], arrU8 ha, by simpa using h1, by show c < _; omega⟩
theorem rl_arg {h : Heap} {A : Option Addr} {zs : List Bz} (ha : Arr Bz.enc 1 h A zs) (hok : ∀ z ∈ zs, z.ok h) : RL h A zs := ⟨ha, fun z hz => (hok z hz).arr⟩

theorem flat_snoc (xs : List Bz) {i : Nat} (hi : i < xs.length) : ((xs.take (i + 1)).map Bz.ys).flatMap frameOf = ((xs.take i).map Bz.ys).flatMap frameOf ++ frameOf (xs[i]).ys := by
  rw [List.take_succ_eq_append_getElem hi, List.map_append, List.flatMap_append]
  simp

end Go.Proofs.Ytnjjdpeglkiifaa.MX

/- The law LogTurns. -/
namespace Go.Proofs.Ytnjjdpeglkiifaa.MX
open Go Go.Proofs
set_option linter.unusedSimpArgs false
set_option linter.unusedVariables false
set_option maxHeartbeats 32000000
theorem bytes_len (n g : Int) (img : List UInt8) (rs : List (List UInt8)) : (bytesOf ⟨n, g, img, rs, false⟩).length = 11 + img.length + (rs.flatMap frameOf).length := by rw [bytesOf, List.length_append, headF_len]
theorem dkn_keeps {n g : Int} {img : List UInt8} (hn : n = 1 ∨ n = 2) (hg : 1 ≤ g ∧ g ≤ 2147483648) (hi : img.length + 4 ≤ 60000) : Keeps (dkn n (bytesOf ⟨n, g, img, [], false⟩)) ⟨n, g, img, [], false⟩ ∧ Lg.wf ⟨n, g, img, [], false⟩ := by
  obtain ⟨h1, h2, _⟩ := dkn_file (f := bytesOf ⟨n, g, img, [], false⟩) hn
  refine ⟨⟨h1, ?_⟩, ⟨hn, hg, hi, by simp⟩⟩
  show Older (fileOf _ (3 - n)) g
  rw [h2]
  intro f hf
  cases hf
theorem LogTurns_ok (A : Option Addr) (c : Nat) (xs : List Bz) (A2 : Option Addr) (c2 : Nat) (ys : List Bz) (h0 : Heap) (ha : Arr Bz.enc 1 h0 A xs) (hc : xs.length ≤ c) (hc2 : c ≤ maxLen) (hok : ∀ z ∈ xs, z.ok h0) (hb : Arr Bz.enc 1 h0 A2 ys) (hbc : ys.length ≤ c2) (hbc2 : c2 ≤ maxLen) (hbok : ∀ z ∈ ys, z.ok h0) :
    CallsH Try.prog 12 [.slice A xs.length c, .slice A2 ys.length c2] h0 fun v h' => v = .bool true ∧ Fr h0 h' [] := by
  have hm : maxLen = 9223372036854775807 := rfl
  have S := St.nil h0
  (refine enterK c_recouplaw04_LogTurns (Nat.le_of_ble_eq_true rfl) fun K hK => ?_; (try simp (maxSteps := 1000000) (disch := first | omega | assumption | exact Nat.le_of_ble_eq_true rfl) only [go_sem, ↓mwp_block, simprocAttr, ir_recouplaw04_LogTurns]))
  refine call_intro (awake04_ok _) ?_
  rintro _ h ⟨rfl, hf⟩
  have S := S.frame hf
  by_cases g1 : 10 < (xs.length : Int)
  · (try simp (maxSteps := 1000000) (disch := first | omega | assumption | exact Nat.le_of_ble_eq_true rfl) only [go_sem, ↓mwp_block, simprocAttr, g1])
    refine call_intro (awake04_ok _) ?_
    rintro _ h ⟨rfl, hf⟩
    (try simp (maxSteps := 1000000) (disch := first | omega | assumption | exact Nat.le_of_ble_eq_true rfl) only [go_sem, ↓mwp_block, simprocAttr])
    exact hK _ _ ⟨rfl, (S.frame hf).fr⟩
  by_cases g2 : 10 < (ys.length : Int)
  · (try simp (maxSteps := 1000000) (disch := first | omega | assumption | exact Nat.le_of_ble_eq_true rfl) only [go_sem, ↓mwp_block, simprocAttr, g1, g2])
    refine call_intro (awake04_ok _) ?_
    rintro _ h ⟨rfl, hf⟩
    (try simp (maxSteps := 1000000) (disch := first | omega | assumption | exact Nat.le_of_ble_eq_true rfl) only [go_sem, ↓mwp_block, simprocAttr])
    exact hK _ _ ⟨rfl, (S.frame hf).fr⟩
  (try simp (maxSteps := 1000000) (disch := first | omega | assumption | exact Nat.le_of_ble_eq_true rfl) only [go_sem, ↓mwp_block, simprocAttr, g1, g2])
  refine call_intro (New_ok 1048576 S) ?_
  clear S hf
  rintro _ h (⟨_, _, d, rfl, S⟩ | ⟨hn, _⟩)
  case inr => exact absurd ⟨by decide, by decide⟩ hn
  have S : St h0 h (diskA d (dk0 1048576) :: []) := S
  (try simp (maxSteps := 1000000) (disch := first | omega | assumption | exact Nat.le_of_ble_eq_true rfl) only [go_sem, ↓mwp_block, simprocAttr])
  refine call_intro (Create_ok (img := []) (dk0_ok ⟨by decide, by decide⟩) rfl (find0 _) S (fun h' S => Arr.nil _ _ _ _) (by simp)) ?_
  clear S
  rw [create_ok (by simp) (by simp)]
  rintro _ h (⟨_, p, rfl, S⟩ | ⟨hn, _⟩)
  case inr => exact absurd rfl hn
  have S : St h0 h (logA p d ⟨1, ((0 : Nat) : Int) + 1, [], [], false⟩ :: diskA d (dkn 1 (bytesOf ⟨1, ((0 : Nat) : Int) + 1, [], [], false⟩)) :: []) := by
    have e : bytesOf ⟨1, ((0 : Nat) : Int) + 1, [], [], false⟩ = headF 1 [] := by simp [bytesOf]
    rw [e]
    exact S
  (try simp (maxSteps := 1000000) (disch := first | omega | assumption | exact Nat.le_of_ble_eq_true rfl) only [go_sem, ↓mwp_block, simprocAttr])
  refine loop_intro (fun ρ h' => ρ 0 = .slice A xs.length c ∧ ρ 1 = .slice A2 ys.length c2 ∧ ρ 5 = .pointer (some ⟨d, 0, none⟩) ∧ ρ 7 = .pointer (some ⟨p, 0, none⟩) ∧ ρ 37 = .int .i64 xs.length ∧ ∃ (i : Nat) (n : Int) (img : List UInt8) (l : List HP), ρ 38 = .int .i64 i ∧ i ≤ xs.length ∧ (n = 1 ∨ n = 2) ∧ img.length ≤ 50000 ∧
    St h0 h' (logA p d ⟨n, (i : Int) + 1, img, [], false⟩ :: diskA d (dkn n (bytesOf ⟨n, (i : Int) + 1, img, [], false⟩)) :: l)) (fun ρ _ => xs.length - (iv (ρ 38)).toNat) ?_ ?_
  · (try simp (maxSteps := 1000000) (disch := first | omega | assumption | exact Nat.le_of_ble_eq_true rfl) only [go_sem, ↓mwp_block, simprocAttr])
    exact ⟨0, 1, [], [], rfl, by omega, .inl rfl, by simp, S⟩
  clear S
  rintro ρ h J hJ ⟨e0, e1, e5, e7, e37, i, n, img, l, e38, hi, hn, him, S⟩
  (try simp (maxSteps := 1000000) (disch := first | omega | assumption | exact Nat.le_of_ble_eq_true rfl) only [go_sem, ↓mwp_block, simprocAttr, e37, e38])
  refine cond_dec (fun hg => ?_) (fun hg => ?_)
  case refine_2 =>
    obtain rfl : i = xs.length := by omega
    obtain ⟨kp, wf⟩ := dkn_keeps (n := n) (g := (xs.length : Int) + 1) (img := img) hn ⟨by omega, by omega⟩ (by omega)
    have okd : (dkn n (bytesOf ⟨n, (xs.length : Int) + 1, img, [], false⟩)).ok := dkn_ok (by rw [bytes_len]; simp; omega)
    obtain ⟨hf, kp2, hl2⟩ := kp.again okd wf rfl rfl rfl
    have w1 : IntKind.i64.wrap ((xs.length : Int) + 1) = xs.length + 1 := wrap_i64 (by omega) (by omega)
    (try simp (maxSteps := 1000000) (disch := first | omega | assumption | exact Nat.le_of_ble_eq_true rfl) only [go_sem, ↓mwp_block, simprocAttr, e5])
    refine call_intro (Open_ok okd rfl (by show ¬ ((-1 : Int) = 0); decide) S.p1) ?_
    clear S
    rw [hf]
    rintro _ h (⟨hx, _⟩ | ⟨_, p2, rfl, S⟩)
    · have := congrArg Lg.file hx
      have : n = 0 := this
      omega
    (try simp (maxSteps := 1000000) (disch := first | omega | assumption | exact Nat.le_of_ble_eq_true rfl) only [go_sem, ↓mwp_block, simprocAttr])
    refine call_intro (GenL_ok S) ?_
    rintro _ _ ⟨rfl, rfl⟩
    (try simp (maxSteps := 1000000) (disch := first | omega | assumption | exact Nat.le_of_ble_eq_true rfl) only [go_sem, ↓mwp_block, simprocAttr, e0, w1])
    exact hK _ _ ⟨rfl, S.fr⟩
  have hi' : i < xs.length := by omega
  obtain ⟨bb, off, rfl, hr⟩ := (ha.fr S.fr (by simp)).at hi'
  have hp : ∀ {h' : Heap} {l : List HP}, St h0 h' l → rd1 h' (.pointer (some ⟨bb, off + i, none⟩)) = some (.slice (xs[i]).A (xs[i]).ys.length (xs[i]).c) := fun s => rd_arr (ha.fr s.fr (by simp)) hi' rfl
  have hz := hok _ (List.getElem_mem hi')
  generalize xs[i] = z at hr hz hp
  obtain ⟨hza, hzl, hzc⟩ := hz
  have hp1 := hp S
  by_cases hlen : 50000 < (z.ys.length : Int)
  · (try simp (maxSteps := 1000000) (disch := first | omega | assumption | exact Nat.le_of_ble_eq_true rfl) only [go_sem, ↓mwp_block, simprocAttr, e0, e38, hp1, hlen, Nat.mul_one])
    exact hK _ _ ⟨rfl, S.fr⟩
  (try simp (maxSteps := 1000000) (disch := first | omega | assumption | exact Nat.le_of_ble_eq_true rfl) only [go_sem, ↓mwp_block, simprocAttr, e0, e38, hp1, hlen, Nat.mul_one, e1])
  clear hp1
  refine loop_intro (fun ρ' h' => ρ' 0 = ρ 0 ∧ ρ' 1 = .slice A2 ys.length c2 ∧ ρ' 5 = ρ 5 ∧ ρ' 7 = .pointer (some ⟨p, 0, none⟩) ∧ ρ' 37 = ρ 37 ∧ ρ' 38 = ρ 38 ∧ ρ' 9 = .int .i64 i ∧ ρ' 48 = .int .i64 ys.length ∧ ∃ (k : Nat) (rs : List (List UInt8)) (l : List HP), ρ' 49 = .int .i64 k ∧ k ≤ ys.length ∧ rs.length ≤ k ∧ (rs.flatMap frameOf).length ≤ 4007 * k ∧
    St h0 h' (logA p d ⟨n, (i : Int) + 1, img, rs, false⟩ :: diskA d (dkn n (bytesOf ⟨n, (i : Int) + 1, img, rs, false⟩)) :: l)) (fun ρ' _ => ys.length - (iv (ρ' 49)).toNat) ?_ ?_
  · (try simp (maxSteps := 1000000) (disch := first | omega | assumption | exact Nat.le_of_ble_eq_true rfl) only [go_sem, ↓mwp_block, simprocAttr, e0, e1, e5, e7, e37, e38])
    exact ⟨0, [], l, rfl, by omega, by simp, by simp, S⟩
  clear S
  rintro ρ' h J2 hJ2 ⟨g0, g1', g5, g7, g37, g38, g9, g48, k, rs, l, g49, hk, hrs, hfl, S⟩
  have hbl := bytes_len n ((i : Int) + 1) img rs
  have okd : (dkn n (bytesOf ⟨n, (i : Int) + 1, img, rs, false⟩)).ok := dkn_ok (by omega)
  (try simp (maxSteps := 1000000) (disch := first | omega | assumption | exact Nat.le_of_ble_eq_true rfl) only [go_sem, ↓mwp_block, simprocAttr, g48, g49])
  refine cond_dec (fun hg => ?_) (fun hg => ?_)
  case refine_1 =>
    have hk' : k < ys.length := by omega
    obtain ⟨b2, o2, rfl, hr2⟩ := (hb.fr S.fr (by simp)).at hk'
    have hq : ∀ {h' : Heap} {l : List HP}, St h0 h' l → rd1 h' (.pointer (some ⟨b2, o2 + k, none⟩)) = some (.slice (ys[k]).A (ys[k]).ys.length (ys[k]).c) := fun s => rd_arr (hb.fr s.fr (by simp)) hk' rfl
    have hw := hbok _ (List.getElem_mem hk')
    generalize ys[k] = w at hr2 hw hq
    obtain ⟨hwa, hwl, hwc⟩ := hw
    have hq1 := hq S
    by_cases hlen2 : 4000 < (w.ys.length : Int)
    · (try simp (maxSteps := 1000000) (disch := first | omega | assumption | exact Nat.le_of_ble_eq_true rfl) only [go_sem, ↓mwp_block, simprocAttr, g1', g49, hq1, hlen2, Nat.mul_one])
      exact hK _ _ ⟨rfl, S.fr⟩
    (try simp (maxSteps := 1000000) (disch := first | omega | assumption | exact Nat.le_of_ble_eq_true rfl) only [go_sem, ↓mwp_block, simprocAttr, g1', g49, hq1, hlen2, g7, Nat.mul_one])
    refine call_intro (AppendL_ok (b := w.ys) (c := w.c) okd (by show rs.length < 1000000; omega) S (fun h' S' => hwa.fr S'.fr (by simp)) (by omega)) ?_
    clear S hq1
    obtain ⟨e, he⟩ := dkn_appendL (b := w.ys) (rs := rs) (img := img) (g := (i : Int) + 1) hn (by omega)
    rw [he]
    by_cases hb1 : w.ys.length < 1 ∨ 4000 < w.ys.length
    · rw [if_pos hb1]
      rintro _ h ⟨rfl, S⟩
      (try simp (maxSteps := 1000000) (disch := first | omega | assumption | exact Nat.le_of_ble_eq_true rfl) only [go_sem, ↓mwp_block, simprocAttr, g49])
      refine hJ2 _ _ ?_ ?_
      · (try simp (maxSteps := 1000000) (disch := first | omega | assumption | exact Nat.le_of_ble_eq_true rfl) only [go_sem, ↓mwp_block, simprocAttr, g0, g1', g5, g7, g37, g38, g9, g48, g49])
        exact ⟨k + 1, rs, l, rfl, by omega, by omega, by omega, S⟩
      · (try simp (maxSteps := 1000000) (disch := first | omega | assumption | exact Nat.le_of_ble_eq_true rfl) only [go_sem, ↓mwp_block, simprocAttr, g49])
        omega
    · rw [if_neg hb1]
      rintro _ h ⟨rfl, S⟩
      (try simp (maxSteps := 1000000) (disch := first | omega | assumption | exact Nat.le_of_ble_eq_true rfl) only [go_sem, ↓mwp_block, simprocAttr, g49])
      refine hJ2 _ _ ?_ ?_
      · (try simp (maxSteps := 1000000) (disch := first | omega | assumption | exact Nat.le_of_ble_eq_true rfl) only [go_sem, ↓mwp_block, simprocAttr, g0, g1', g5, g7, g37, g38, g9, g48, g49])
        exact ⟨k + 1, rs ++ [w.ys], l, rfl, by omega, by simp; omega, by rw [List.flatMap_append, List.length_append, List.flatMap_cons, List.flatMap_nil, List.append_nil, frameOf_len]; omega, S⟩
      · (try simp (maxSteps := 1000000) (disch := first | omega | assumption | exact Nat.le_of_ble_eq_true rfl) only [go_sem, ↓mwp_block, simprocAttr, g49])
        omega
  have hp1 := hp S
  (try simp (maxSteps := 1000000) (disch := first | omega | assumption | exact Nat.le_of_ble_eq_true rfl) only [go_sem, ↓mwp_block, simprocAttr, g7, g0, e0, g9, hp1, Nat.mul_one])
  refine call_intro (CompactL_ok (D := dkn n (bytesOf ⟨n, (i : Int) + 1, img, rs, false⟩)) (L := ⟨n, (i : Int) + 1, img, rs, false⟩) (img := z.ys) (c := z.c) okd ⟨by show (0 : Int) ≤ (i : Int) + 1; omega, by show (i : Int) + 1 < 4294967295; omega⟩ (by show I64 (3 - n); rcases hn with rfl | rfl <;> exact ⟨by decide, by decide⟩) S (fun h' S' => hza.fr S'.fr (by simp)) (by omega)) ?_
  clear S hp1
  rw [dkn_compact (n := n) (g := (i : Int) + 1) (img := z.ys) (img0 := img) (rs := rs) hn (by omega) (by omega) (by omega)]
  rintro _ h ⟨rfl, S⟩
  have hn' : 3 - n = 1 ∨ 3 - n = 2 := by omega
  simp only at S
  obtain ⟨d1, d2, d3⟩ := dkn_file (n := 3 - n) (f := bytesOf ⟨3 - n, (i : Int) + 1 + 1, z.ys, [], false⟩) hn'
  have hp1 := hp S
  (try simp (maxSteps := 1000000) (disch := first | omega | assumption | exact Nat.le_of_ble_eq_true rfl) only [go_sem, ↓mwp_block, simprocAttr, g0, e0, g9, hp1, Nat.mul_one, g7])
  refine call_intro (Same_ok (L := ⟨3 - n, (i : Int) + 1 + 1, z.ys, [], false⟩) (img := z.ys) (c := z.c) (B := none) (ws := []) (c' := 0) ⟨by show z.ys.length < _; omega, by simp, by simp⟩ S (fun h' S' => hza.fr S'.fr (by simp)) (fun h' S' => ⟨Arr.nil _ _ _ _, by simp⟩) (by omega) (by simp) (by simp)) ?_
  clear S hp1
  rintro _ h ⟨rfl, S⟩
  have hd : dcd ((⟨3 - n, (i : Int) + 1 + 1, z.ys, [], false⟩ : Lg).img = z.ys ∧ ((⟨3 - n, (i : Int) + 1 + 1, z.ys, [], false⟩ : Lg).recs = ([] : List Bz).map Bz.ys)) = true := dcd_true ⟨rfl, rfl⟩
  rw [hd]
  have w2 : IntKind.i64.wrap ((i : Int) + 2) = i + 2 := wrap_i64 (by omega) (by omega)
  (try simp (maxSteps := 1000000) (disch := first | omega | assumption | exact Nat.le_of_ble_eq_true rfl) only [go_sem, ↓mwp_block, simprocAttr, g7])
  refine call_intro (GenL_ok S) ?_
  rintro _ _ ⟨rfl, rfl⟩
  have e2 : (i : Int) + 1 + 1 = i + 2 := by omega
  simp only [e2] at S d1 d2 d3 ⊢
  (try simp (maxSteps := 1000000) (disch := first | omega | assumption | exact Nat.le_of_ble_eq_true rfl) only [go_sem, ↓mwp_block, simprocAttr, g9, w2, g5, e5])
  refine call_intro (Has_ok 1 S.p1) ?_
  rintro _ _ ⟨rfl, rfl⟩
  (try simp (maxSteps := 1000000) (disch := first | omega | assumption | exact Nat.le_of_ble_eq_true rfl) only [go_sem, ↓mwp_block, simprocAttr, g5, e5])
  refine call_intro (Has_ok 2 S.p1) ?_
  rintro _ _ ⟨rfl, rfl⟩
  have hnext : ∀ {ρ1 : Env} {h1 : Heap}, ρ1 0 = ρ' 0 → ρ1 1 = ρ' 1 → ρ1 5 = ρ' 5 → ρ1 7 = ρ' 7 → ρ1 37 = ρ' 37 → ρ1 38 = .int .i64 ((i : Int) + 1) → St h0 h1 (logA p d ⟨3 - n, (i : Int) + 2, z.ys, [], false⟩ :: diskA d (dkn (3 - n) (bytesOf ⟨3 - n, (i : Int) + 2, z.ys, [], false⟩)) :: l) → J ρ1 h1 := by
    intro ρ1 h1 q0 q1 q5 q7 q37 q38 S
    refine hJ _ _ ?_ ?_
    · rw [q0, q1, q5, q7, q37]
      refine ⟨by rw [g0, e0], g1', by rw [g5, e5], g7, by rw [g37, e37], i + 1, 3 - n, z.ys, l, q38, by omega, hn', by omega, ?_⟩
      have e3 : ((i + 1 : Nat) : Int) + 1 = i + 2 := by omega
      rw [e3]
      exact S
    · (try simp (maxSteps := 1000000) (disch := first | omega | assumption | exact Nat.le_of_ble_eq_true rfl) only [go_sem, ↓mwp_block, simprocAttr, q38, e38])
      omega
  rcases hn with rfl | rfl
  · have e31 : (3 : Int) - 1 = 2 := rfl
    have e32 : (3 : Int) - 2 = 1 := rfl
    simp only [e31, e32] at d1 d2 d3 S ⊢
    rw [d1, d2]
    (try simp (maxSteps := 1000000) (disch := first | omega | assumption | exact Nat.le_of_ble_eq_true rfl) only [go_sem, ↓mwp_block, simprocAttr, g5, e5, Option.isSome_none, Option.isSome_some, Bool.false_beq, Bool.true_beq])
    refine call_intro (Has_ok 3 S.p1) ?_
    rintro _ _ ⟨rfl, rfl⟩
    rw [d3]
    (try simp (maxSteps := 1000000) (disch := first | omega | assumption | exact Nat.le_of_ble_eq_true rfl) only [go_sem, ↓mwp_block, simprocAttr, g38, e38, Option.isSome_none])
    refine hnext ?_ ?_ ?_ ?_ ?_ ?_ S
    all_goals (try simp (maxSteps := 1000000) (disch := first | omega | assumption | exact Nat.le_of_ble_eq_true rfl) only [go_sem, ↓mwp_block, simprocAttr, g38, e38])
  · have e31 : (3 : Int) - 1 = 2 := rfl
    have e32 : (3 : Int) - 2 = 1 := rfl
    simp only [e31, e32] at d1 d2 d3 S ⊢
    rw [d1, d2]
    (try simp (maxSteps := 1000000) (disch := first | omega | assumption | exact Nat.le_of_ble_eq_true rfl) only [go_sem, ↓mwp_block, simprocAttr, g5, e5, Option.isSome_none, Option.isSome_some, Bool.false_beq, Bool.true_beq])
    refine call_intro (Has_ok 3 S.p1) ?_
    rintro _ _ ⟨rfl, rfl⟩
    rw [d3]
    (try simp (maxSteps := 1000000) (disch := first | omega | assumption | exact Nat.le_of_ble_eq_true rfl) only [go_sem, ↓mwp_block, simprocAttr, g38, e38, Option.isSome_none])
    refine hnext ?_ ?_ ?_ ?_ ?_ ?_ S
    all_goals (try simp (maxSteps := 1000000) (disch := first | omega | assumption | exact Nat.le_of_ble_eq_true rfl) only [go_sem, ↓mwp_block, simprocAttr, g38, e38])
end Go.Proofs.Ytnjjdpeglkiifaa.MX
