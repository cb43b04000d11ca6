/- Texts in one file: Lh1, Lh2, Lh3, Lh4, Lg6. -/
import Derived.Test.YtnjjdpeglkiifaaK23
import Derived.Test.YtnjjdpeglkiifaaK22

/- The log's plain law: what a disk keeps. -/
namespace Go.Proofs.Ytnjjdpeglkiifaa.MX
open Go Go.Proofs
set_option linter.unusedSimpArgs false
set_option linter.unusedVariables false
set_option maxHeartbeats 4000000
def bytesOf (L : Lg) : List UInt8 := headF L.gen L.img ++ L.recs.flatMap frameOf
structure Lg.wf (L : Lg) : Prop where
  file : L.file = 1 ∨ L.file = 2
  gen : 1 ≤ L.gen ∧ L.gen ≤ 2147483648
  img : L.img.length + 4 ≤ 60000
  recs : ∀ x ∈ L.recs, 1 ≤ x.length ∧ x.length ≤ 60000
/-- A file that is none of a log's, or an older one's. -/
def Older (o : Option DF) (g : Int) : Prop := ∀ f, o = some f → ∀ x, begins f.bs = some x → x.1 < g
def Torn (D : Dk) (L : Lg) : Prop := ∃ t, framesOf t = [] ∧ fileOf D L.file = some ⟨bytesOf L ++ t, (bytesOf L ++ t).length⟩ ∧ Older (fileOf D (3 - L.file)) L.gen
def Keeps (D : Dk) (L : Lg) : Prop := fileOf D L.file = some ⟨bytesOf L, (bytesOf L).length⟩ ∧ Older (fileOf D (3 - L.file)) L.gen
theorem framesOf_nil : framesOf [] = [] := by
  rw [framesOf_eq, firstOf_no fun h => by have := h.1; simp at this]
theorem Keeps.torn {D : Dk} {L : Lg} (h : Keeps D L) : Torn D L := ⟨[], framesOf_nil, by rw [List.append_nil]; exact h.1, h.2⟩
theorem firstOf_head {g : Int} {img r : List UInt8} (h1 : img.length + 4 ≤ 60000) : firstOf (headF g img ++ r) = some (le 4 g ++ img) := by
  rw [headF, firstOf_frame (by rw [List.length_append, le_length]; omega) (by rw [List.length_append, le_length]; omega)]
theorem begins_head {g : Int} {img r : List UInt8} (hg : 0 ≤ g ∧ g < 4294967296) (h1 : img.length + 4 ≤ 60000) : begins (headF g img ++ r) = some (g, img, 11 + img.length) := by
  have hl : (le 4 g ++ img).length = 4 + img.length := by rw [List.length_append, le_length]
  rw [begins, firstOf_head h1]
  simp only
  rw [if_neg (by omega), List.take_append_of_le_length (by rw [le_length]; omega), List.take_of_length_le (by rw [le_length]; omega), List.drop_append_of_le_length (by rw [le_length]; omega), List.drop_of_length_le (by rw [le_length]; omega), num_le 4 g hg.1 (by have := hg.2; omega), List.nil_append, hl]
  congr 2
  congr 1
  omega
theorem begins_bytes {L : Lg} {t : List UInt8} (w : L.wf) : begins (bytesOf L ++ t) = some (L.gen, L.img, 11 + L.img.length) := by
  rw [bytesOf, List.append_assoc]
  exact begins_head ⟨by have := w.gen; omega, by have := w.gen; omega⟩ w.img
theorem bytes_drop (L : Lg) (t : List UInt8) : (bytesOf L ++ t).drop (11 + L.img.length) = L.recs.flatMap frameOf ++ t := by
  have hl := headF_len L.gen L.img
  rw [bytesOf, List.append_assoc, List.drop_append_of_le_length (by omega), List.drop_of_length_le (by omega), List.nil_append]
theorem frames_tail {L : Lg} {t : List UInt8} (w : L.wf) (ht : framesOf t = []) : framesOf (L.recs.flatMap frameOf ++ t) = L.recs := by rw [framesOf_cat _ w.recs, ht, List.append_nil]
theorem whole_bytes {L : Lg} {t : List UInt8} (w : L.wf) (ht : framesOf t = []) : endOf (framesOf (bytesOf L ++ t)) = (bytesOf L).length := by
  have h1 : framesOf (bytesOf L ++ t) = (le 4 L.gen ++ L.img) :: L.recs := by
    rw [framesOf_eq, bytesOf, List.append_assoc, firstOf_head w.img]
    simp only
    have hl : (le 4 L.gen ++ L.img).length = 4 + L.img.length := by rw [List.length_append, le_length]
    rw [hl, show 7 + (4 + L.img.length) = 11 + L.img.length by omega, ← List.append_assoc]
    have := bytes_drop L t
    rw [bytesOf] at this
    rw [this, frames_tail w ht]
  rw [h1, endOf_flat, bytesOf]
  rfl
theorem find_torn {D : Dk} {L : Lg} (w : L.wf) (h : Torn D L) : findL D = { L with over := false } := by
  obtain ⟨t, ht, hf, ho⟩ := h
  have hg := w.gen
  have hb := begins_bytes (t := t) w
  have key : ∀ M : Lg, M.gen < L.gen → pickL D L.file M = ⟨L.file, L.gen, L.img, L.recs, M.over⟩ := fun M hM => by
    unfold pickL
    rw [hf]
    simp only [hb]
    rw [if_neg (by omega), bytes_drop, frames_tail w ht]
  have old : ∀ M : Lg, L.gen ≤ M.gen → pickL D (3 - L.file) M = M := fun M hM => by
    unfold pickL
    cases hq : fileOf D (3 - L.file) with
    | none => rfl
    | some f =>
      simp only
      cases hx : begins f.bs with
      | none => rfl
      | some x =>
        obtain ⟨g', i', k'⟩ := x
        have := ho f hq _ hx
        simp only at this ⊢
        rw [if_pos (by omega)]
  have old2 : (pickL D (3 - L.file) lg0).gen < L.gen ∧ (pickL D (3 - L.file) lg0).over = false := by
    by_cases h2 : pickL D (3 - L.file) lg0 = lg0
    · rw [h2]; exact ⟨by show (0 : Int) < _; omega, rfl⟩
    · obtain ⟨_, f, g', img', k, e1, e2, e3⟩ := pick_file h2
      rw [e3]
      exact ⟨ho f e1 _ e2, rfl⟩
  unfold findL
  rcases w.file with h1 | h2
  · rw [h1] at key old
    rw [key lg0 (by show (0 : Int) < _; omega)]
    have e : (3 : Int) - 1 = 2 := rfl
    rw [e] at old
    rw [old ⟨1, L.gen, L.img, L.recs, lg0.over⟩ (Int.le_refl _), ← h1]
    rfl
  · rw [h2] at key old2
    have e : (3 : Int) - 2 = 1 := rfl
    rw [e] at old2
    rw [key _ old2.1, old2.2, ← h2]
theorem fileOf_setN {D : Dk} {n m : Int} {o : Option DF} {fuse : Int} {lost : Bool} (h8 : D.fs.length = 8) (hn : 0 ≤ n ∧ n < 8) (hm : 0 ≤ m ∧ m < 8) : fileOf ⟨D.cap, D.fs.set n.toNat o, fuse, lost⟩ m = if m = n then o else fileOf D m := by
  unfold fileOf
  rw [if_pos hm, if_pos hm]
  simp only [List.getD_eq_getElem?_getD]
  by_cases e : m = n
  · subst e
    rw [if_pos rfl, List.getElem?_set_self (by omega)]
    rfl
  · rw [if_neg e, List.getElem?_set_ne (by omega)]
theorem open_torn {D : Dk} {L : Lg} (w : L.wf) (h8 : D.fs.length = 8) (hlo : D.lost = false) (hfu : D.fuse ≠ 0) (h : Torn D L) : Keeps (openD D) L ∧ (openD D).lost = false ∧ (D.fuse = -1 → (openD D).fuse = -1) := by
  have hfind := find_torn w h
  obtain ⟨t, ht, hf, ho⟩ := h
  have hw := whole_bytes (t := t) w ht
  have hop : openD D = match fileOf D (findL D).file with
    | none => D
    | some f => if endOf (framesOf f.bs) < f.bs.length then (cutD D (findL D).file (endOf (framesOf f.bs) : Nat)).1 else D := rfl
  rw [hfind] at hop
  simp only [hf, hw] at hop
  have hn : 0 ≤ L.file ∧ L.file < 8 := by rcases w.file with h | h <;> rw [h] <;> decide
  have hn' : 0 ≤ 3 - L.file ∧ 3 - L.file < 8 := by rcases w.file with h | h <;> rw [h] <;> decide
  have hne : ¬ 3 - L.file = L.file := by rcases w.file with h | h <;> rw [h] <;> decide
  by_cases hlt : (bytesOf L).length < (bytesOf L ++ t).length
  · rw [if_pos hlt] at hop
    have hth : thereE D L.file = 0 := by rw [there_at hlo hn.1 hn.2, hf]; rfl
    have hcut : (cutD D L.file ((bytesOf L).length : Nat)).1 = ⟨D.cap, D.fs.set L.file.toNat (some ⟨bytesOf L, (bytesOf L).length⟩), burnF D.fuse, D.lost⟩ := by
      rw [cutD, if_neg (by rw [hth]; simp), hf, if_neg (by simp; omega), if_neg hfu]
      simp
    rw [hop, hcut]
    refine ⟨⟨?_, ?_⟩, hlo, fun e => ?_⟩
    · rw [fileOf_setN h8 hn hn, if_pos rfl]
    · rw [fileOf_setN h8 hn hn', if_neg hne]; exact ho
    · show burnF D.fuse = -1
      rw [e]; rfl
  · rw [if_neg hlt] at hop
    have h0 : t = [] := by
      rw [List.length_append] at hlt
      exact List.eq_nil_of_length_eq_zero (by omega)
    subst h0
    rw [List.append_nil] at hf
    rw [hop]
    exact ⟨⟨hf, ho⟩, hlo, id⟩
end Go.Proofs.Ytnjjdpeglkiifaa.MX

/- The log's plain law: the power goes, and comes back. -/
namespace Go.Proofs.Ytnjjdpeglkiifaa.MX
open Go Go.Proofs
set_option linter.unusedSimpArgs false
set_option linter.unusedVariables false
set_option maxHeartbeats 4000000
theorem firstOf_take {b x : List UInt8} {k : Nat} (h : firstOf (b.take k) = some x) : firstOf b = some x := by
  obtain ⟨⟨g1, g2, g3, g4, g5, g6⟩, hx, _⟩ := firstOf_some h
  have hl : (b.take k).length = min k b.length := List.length_take
  have hk : 7 ≤ k := by omega
  have hN : frN (b.take k) = frN b := by rw [frN, frN, List.drop_take, List.take_take, Nat.min_eq_left (by omega)]
  have hX : frX (b.take k) = frX b := by
    rw [frX, frX, hN, List.drop_take, List.take_take, Nat.min_eq_left]
    rw [hN] at g5
    omega
  rw [hN] at g3 g4 g5
  rw [hX] at g6 hx
  have h3 : ((b.take k).drop 3).take 4 = (b.drop 3).take 4 := by rw [List.drop_take, List.take_take, Nat.min_eq_left (by omega)]
  rw [h3] at g6
  have h0 : (b.take k)[0]? = b[0]? := by rw [List.getElem?_take, if_pos (by omega)]
  rw [h0] at g2
  rw [firstOf_yes ⟨by omega, g2, g3, g4, by omega, g6⟩, hx]
theorem begins_take {b : List UInt8} {k : Nat} {x : Int × List UInt8 × Nat} (h : begins (b.take k) = some x) : begins b = some x := by
  unfold begins at h ⊢
  cases hf : firstOf (b.take k) with
  | none => rw [hf] at h; cases h
  | some y =>
    rw [hf] at h
    rw [firstOf_take hf]
    exact h
theorem older_rest {o : Option DF} {g k : Int} (h : Older o g) : Older (restS k o) g := by
  intro f hf x hx
  cases o with
  | none => cases hf
  | some f0 =>
    cases hf
    exact h f0 rfl x (begins_take hx)
theorem rest_between {k : Int} {f : DF} (hs : f.safe ≤ f.bs.length) : ∃ n, f.safe ≤ n ∧ n ≤ f.bs.length ∧ restS k (some f) = some ⟨f.bs.take n, n⟩ :=
  ⟨f.safe + min (max k 0).toNat (f.bs.length - f.safe), by omega, by omega, rfl⟩
theorem rest_full {k : Int} {bs : List UInt8} : restS k (some ⟨bs, bs.length⟩) = some ⟨bs, bs.length⟩ := by
  obtain ⟨n, h1, h2, h⟩ := rest_between (k := k) (f := ⟨bs, bs.length⟩) (Nat.le_refl _)
  have : n = bs.length := Nat.le_antisymm h2 h1
  subst this
  rw [h, List.take_length]
theorem fileOf_rest {D : Dk} {ks : List Int} {n : Int} (h8 : D.fs.length = 8) (hk : ks.length = 8) (hn : 0 ≤ n ∧ n < 8) : fileOf (restartD D ks) n = restS (ks[n.toNat]'(by omega)) (fileOf D n) := by
  unfold fileOf
  rw [if_pos hn, if_pos hn]
  simp only [restartD, List.getD_eq_getElem?_getD]
  rw [List.getElem?_eq_getElem (by simp; omega), List.getElem?_eq_getElem (show n.toNat < D.fs.length by omega), List.getElem_zipWith]
  rfl
def Reach (D : Dk) (A B : List UInt8 × List (List UInt8)) : Prop := ∀ ks : List Int, ks.length = 8 → ∃ L : Lg, L.wf ∧ L.over = false ∧ Torn (restartD D ks) L ∧ ((L.img, L.recs) = A ∨ (L.img, L.recs) = B)
theorem Lg.wf.in8 {L : Lg} (w : L.wf) : (0 ≤ L.file ∧ L.file < 8) ∧ (0 ≤ 3 - L.file ∧ 3 - L.file < 8) ∧ ¬ 3 - L.file = L.file ∧ ¬ L.file = 3 ∧ ¬ 3 - L.file = 3 := by
  rcases w.file with h | h <;> rw [h] <;> decide
theorem keeps_reach {D : Dk} {L : Lg} {B : List UInt8 × List (List UInt8)} (h8 : D.fs.length = 8) (w : L.wf) (h : Keeps D L) : Reach D (L.img, L.recs) B := by
  intro ks hk
  obtain ⟨h1, h2, _⟩ := w.in8
  refine ⟨{ L with over := false }, ⟨w.file, w.gen, w.img, w.recs⟩, rfl, ?_, .inl rfl⟩
  refine Keeps.torn ⟨?_, ?_⟩
  · show fileOf _ L.file = _
    rw [fileOf_rest h8 hk h1, h.1, rest_full]
    rfl
  · show Older (fileOf _ (3 - L.file)) _
    rw [fileOf_rest h8 hk h2]
    exact older_rest h.2
/-- What a file's bytes are whose last record came in part. -/
theorem part_reach {D : Dk} {L : Lg} {b : List UInt8} {m : Nat} (h8 : D.fs.length = 8) (w : L.wf) (hb : 1 ≤ b.length ∧ b.length ≤ 60000)
    (hf : fileOf D L.file = some ⟨bytesOf L ++ (frameOf b).take m, (bytesOf L).length⟩) (ho : Older (fileOf D (3 - L.file)) L.gen) : Reach D (L.img, L.recs) (L.img, L.recs ++ [b]) := by
  intro ks hk
  obtain ⟨h1, h2, _⟩ := w.in8
  obtain ⟨n, n1, n2, hr⟩ := rest_between (k := ks[L.file.toNat]'(by omega)) (f := ⟨bytesOf L ++ (frameOf b).take m, (bytesOf L).length⟩) (by simp)
  simp only at n1 n2 hr
  have hfl := frameOf_len b
  have hfile := fileOf_rest (D := D) h8 hk h1
  rw [hf, hr] at hfile
  have ho2 : Older (fileOf (restartD D ks) (3 - L.file)) L.gen := by rw [fileOf_rest h8 hk h2]; exact older_rest ho
  have htk : (bytesOf L ++ (frameOf b).take m).take n = bytesOf L ++ (frameOf b).take (min (n - (bytesOf L).length) m) := by
    rw [List.take_append, List.take_of_length_le (by omega), List.take_take]
  rw [htk] at hfile
  have hn : n = (bytesOf L ++ (frameOf b).take (min (n - (bytesOf L).length) m)).length := by
    rw [List.length_append, List.length_take] at n2
    rw [List.length_append, List.length_take]
    omega
  generalize hj : min (n - (bytesOf L).length) m = j at *
  by_cases hlt : j < 7 + b.length
  · refine ⟨{ L with over := false }, ⟨w.file, w.gen, w.img, w.recs⟩, rfl, ⟨(frameOf b).take j, framesOf_part hb.1 hb.2 hlt, ?_, ho2⟩, .inl rfl⟩
    show fileOf _ L.file = _
    rw [hfile]
    congr 2
  · refine ⟨⟨L.file, L.gen, L.img, L.recs ++ [b], false⟩, ⟨w.file, w.gen, w.img, ?_⟩, rfl, Keeps.torn ⟨?_, ho2⟩, .inr rfl⟩
    · intro x hx
      rcases List.mem_append.1 hx with hx | hx
      · exact w.recs x hx
      · simp at hx; subst hx; exact hb
    · rw [List.take_of_length_le (by omega)] at hfile hn
      have hby : bytesOf ⟨L.file, L.gen, L.img, L.recs ++ [b], false⟩ = bytesOf L ++ frameOf b := by simp [bytesOf]
      show fileOf _ L.file = _
      rw [hfile, hby]
      congr 2
end Go.Proofs.Ytnjjdpeglkiifaa.MX

/- The log's plain law: Append. -/
namespace Go.Proofs.Ytnjjdpeglkiifaa.MX
open Go Go.Proofs
set_option linter.unusedSimpArgs false
set_option linter.unusedVariables false
set_option maxHeartbeats 4000000
/-- What a call leaves: done; or the power went; or nothing. -/
structure Left (D' : Dk) (L L' : Lg) (e : Int) (A B : List UInt8 × List (List UInt8)) : Prop where
  wf : L'.wf
  good : e = 0 → Keeps D' L' ∧ D'.lost = false ∧ L'.over = false ∧ (L'.img, L'.recs) = B
  gone : e = 6 → L'.over = true ∧ D'.lost = true ∧ Reach D' A B
  none : e ≠ 0 → e ≠ 6 → Keeps D' L' ∧ D'.lost = false ∧ L'.over = false ∧ (L'.img, L'.recs) = A
theorem ask_0 {D : Dk} {n : Int} (hlo : D.lost = false) (hn : 0 ≤ n ∧ n < 8) : askE D n = 0 := by unfold askE; rw [hlo, if_neg (by simp), if_pos hn]
theorem append_left {D : Dk} {L : Lg} {b : List UInt8} (ok : D.ok) (w : L.wf) (hlo : D.lost = false) (hov : L.over = false) (h : Keeps D L) :
    Left (appendL D L b).1 L (appendL D L b).2.1 (appendL D L b).2.2 (L.img, L.recs) (L.img, L.recs ++ [b]) := by
  obtain ⟨n1, n2, hne, _⟩ := w.in8
  have h8 := ok.len
  have hdef : appendL D L b = if (b.length < 1 ∨ 4000 < b.length) then (D, L, 4)
    else if (appendD D L.file (frameOf b)).2 ≠ 0 then ((appendD D L.file (frameOf b)).1, overL L (appendD D L.file (frameOf b)).2, (appendD D L.file (frameOf b)).2)
    else if (syncD (appendD D L.file (frameOf b)).1 L.file).2 ≠ 0 then ((syncD (appendD D L.file (frameOf b)).1 L.file).1, overL L (syncD (appendD D L.file (frameOf b)).1 L.file).2, (syncD (appendD D L.file (frameOf b)).1 L.file).2)
    else ((syncD (appendD D L.file (frameOf b)).1 L.file).1, { L with recs := L.recs ++ [b] }, 0) := by
    rw [appendL, if_neg (by rw [hov]; simp)]
  have hL0 : Lg.mk L.file L.gen L.img L.recs false = L := by rw [← hov]
  have none4 : ∀ e : Int, e ≠ 0 → e ≠ 6 → Left D L L e (L.img, L.recs) (L.img, L.recs ++ [b]) := fun e e1 e2 => ⟨w, fun h => (e1 h).elim, fun h => (e2 h).elim, fun _ _ => ⟨h, hlo, hov, rfl⟩⟩
  by_cases hb : b.length < 1 ∨ 4000 < b.length
  · rw [if_pos hb] at hdef
    rw [hdef]
    exact none4 4 (by decide) (by decide)
  rw [if_neg hb] at hdef
  have hbl : 1 ≤ b.length ∧ b.length ≤ 60000 := by omega
  have ha : appendD D L.file (frameOf b) = if ((frameOf b).length : Int) > D.cap - used D.fs then (D, 5)
    else if D.fuse = 0 then (⟨D.cap, D.fs.set L.file.toNat (some ⟨bytesOf L ++ (frameOf b).take ((frameOf b).length / 2), (bytesOf L).length⟩), D.fuse, true⟩, 6)
    else (⟨D.cap, D.fs.set L.file.toNat (some ⟨bytesOf L ++ frameOf b, (bytesOf L).length⟩), burnF D.fuse, D.lost⟩, 0) := by
    rw [appendD, ask_0 hlo n1, if_neg (by simp), h.1]
    rfl
  by_cases hfull : ((frameOf b).length : Int) > D.cap - used D.fs
  · rw [if_pos hfull] at ha
    rw [ha] at hdef
    rw [if_pos (by simp)] at hdef
    rw [hdef]
    have : overL L 5 = L := by simp [overL]
    simp only [this]
    exact none4 5 (by decide) (by decide)
  rw [if_neg hfull] at ha
  by_cases hfu : D.fuse = 0
  · rw [if_pos hfu] at ha
    rw [ha] at hdef
    rw [if_pos (by simp)] at hdef
    rw [hdef]
    refine ⟨⟨w.file, w.gen, w.img, w.recs⟩, fun h => (by cases h), fun _ => ⟨by simp [overL], rfl, ?_⟩, fun _ h => (h rfl).elim⟩
    refine part_reach (m := (frameOf b).length / 2) (by simpa using h8) w hbl ?_ ?_
    · rw [fileOf_setN h8 n1 n1, if_pos rfl]
    · rw [fileOf_setN h8 n1 n2, if_neg hne]; exact h.2
  rw [if_neg hfu] at ha
  rw [ha] at hdef
  rw [if_neg (by simp)] at hdef
  simp only at hdef
  have hf1 : fileOf ⟨D.cap, D.fs.set L.file.toNat (some ⟨bytesOf L ++ frameOf b, (bytesOf L).length⟩), burnF D.fuse, D.lost⟩ L.file = some ⟨bytesOf L ++ frameOf b, (bytesOf L).length⟩ := by rw [fileOf_setN h8 n1 n1, if_pos rfl]
  have ho1 : Older (fileOf ⟨D.cap, D.fs.set L.file.toNat (some ⟨bytesOf L ++ frameOf b, (bytesOf L).length⟩), burnF D.fuse, D.lost⟩ (3 - L.file)) L.gen := by rw [fileOf_setN h8 n1 n2, if_neg hne]; exact h.2
  have h81 : (D.fs.set L.file.toNat (some ⟨bytesOf L ++ frameOf b, (bytesOf L).length⟩)).length = 8 := by simpa using h8
  generalize hD1 : D.fs.set L.file.toNat (some ⟨bytesOf L ++ frameOf b, (bytesOf L).length⟩) = fs1 at *
  have hs : syncD ⟨D.cap, fs1, burnF D.fuse, D.lost⟩ L.file = if burnF D.fuse = 0 then (⟨D.cap, fs1, burnF D.fuse, true⟩, 6)
    else (⟨D.cap, fs1.set L.file.toNat (some ⟨bytesOf L ++ frameOf b, (bytesOf L ++ frameOf b).length⟩), burnF (burnF D.fuse), D.lost⟩, 0) := by
    have ht : thereE ⟨D.cap, fs1, burnF D.fuse, D.lost⟩ L.file = 0 := by rw [there_at (D := ⟨D.cap, fs1, burnF D.fuse, D.lost⟩) hlo n1.1 n1.2, hf1]; rfl
    rw [syncD, ht, if_neg (by simp), hf1]
    rfl
  by_cases hfu2 : burnF D.fuse = 0
  · rw [if_pos hfu2] at hs
    rw [hs] at hdef
    rw [if_pos (by simp)] at hdef
    rw [hdef]
    refine ⟨⟨w.file, w.gen, w.img, w.recs⟩, fun h => (by cases h), fun _ => ⟨by simp [overL], rfl, ?_⟩, fun _ h => (h rfl).elim⟩
    refine part_reach (m := (frameOf b).length) h81 w hbl ?_ ?_
    · rw [List.take_length]; exact hf1
    · exact ho1
  · rw [if_neg hfu2] at hs
    rw [hs] at hdef
    rw [if_neg (by simp)] at hdef
    rw [hdef]
    have hw : ∀ x ∈ L.recs ++ [b], 1 ≤ x.length ∧ x.length ≤ 60000 := fun x hx => by
      rcases List.mem_append.1 hx with hx | hx
      · exact w.recs x hx
      · simp at hx; subst hx; exact hbl
    have hby : ∀ o, bytesOf ⟨L.file, L.gen, L.img, L.recs ++ [b], o⟩ = bytesOf L ++ frameOf b := fun o => by simp [bytesOf]
    refine ⟨⟨w.file, w.gen, w.img, hw⟩, fun _ => ⟨⟨?_, ?_⟩, hlo, hov, rfl⟩, fun h => (by cases h), fun h _ => (h rfl).elim⟩
    · show fileOf _ L.file = _
      rw [hby]
      exact (fileOf_setN (D := ⟨D.cap, fs1, 0, false⟩) h81 n1 n1).trans (if_pos rfl)
    · show Older (fileOf _ (3 - L.file)) L.gen
      rw [show fileOf _ (3 - L.file) = _ from (fileOf_setN (D := ⟨D.cap, fs1, burnF D.fuse, D.lost⟩) h81 n1 n2).trans (if_neg hne)]
      exact ho1
end Go.Proofs.Ytnjjdpeglkiifaa.MX

/- The log's plain law: Compact. -/
namespace Go.Proofs.Ytnjjdpeglkiifaa.MX
open Go Go.Proofs
set_option linter.unusedSimpArgs false
set_option linter.unusedVariables false
set_option maxHeartbeats 4000000
/-- A call that turns at most the third file, and the power. -/
structure Op3 (D : Dk) (R : Dk × Int) : Prop where
  len : R.1.fs.length = 8
  same : ∀ n : Int, n = 1 ∨ n = 2 → fileOf R.1 n = fileOf D n
  gone : R.2 = 6 → R.1.lost = true
  live : R.2 ≠ 6 → R.1.lost = false
theorem Op3.trans {D : Dk} {R : Dk × Int} {R2 : Dk × Int} (h1 : Op3 D R) (h2 : Op3 R.1 R2) : Op3 D R2 := ⟨h2.len, fun n hn => (h2.same n hn).trans (h1.same n hn), h2.gone, h2.live⟩
theorem op3_rfl {D : Dk} {e : Int} (h8 : D.fs.length = 8) (hlo : D.lost = false) (he : e ≠ 6) : Op3 D (D, e) := ⟨h8, fun _ _ => rfl, fun h => (he h).elim, fun _ => hlo⟩
theorem op3_lost {D : Dk} (h8 : D.fs.length = 8) : Op3 D ({ D with lost := true }, 6) := ⟨h8, fun _ _ => rfl, fun _ => rfl, fun h => (h rfl).elim⟩
theorem fileOf_3 {D : Dk} {n : Int} {o : Option DF} {fuse : Int} {lost : Bool} (h8 : D.fs.length = 8) (hn : n = 1 ∨ n = 2) : fileOf ⟨D.cap, D.fs.set 3 o, fuse, lost⟩ n = fileOf D n := by
  have := fileOf_setN (D := D) (n := 3) (m := n) (o := o) (fuse := fuse) (lost := lost) h8 ⟨by decide, by decide⟩ (by rcases hn with h | h <;> rw [h] <;> decide)
  rw [if_neg (by rcases hn with h | h <;> rw [h] <;> decide)] at this
  exact this
theorem fileOf_33 {D : Dk} {o : Option DF} {fuse : Int} {lost : Bool} (h8 : D.fs.length = 8) : fileOf ⟨D.cap, D.fs.set 3 o, fuse, lost⟩ 3 = o := by
  have := fileOf_setN (D := D) (n := 3) (m := 3) (o := o) (fuse := fuse) (lost := lost) h8 ⟨by decide, by decide⟩ ⟨by decide, by decide⟩
  rw [if_pos rfl] at this
  exact this
theorem there_3 {D : Dk} (hlo : D.lost = false) : thereE D 3 = if (fileOf D 3).isNone then 7 else 0 := there_at hlo (by decide) (by decide)
theorem remove3 {D : Dk} (h8 : D.fs.length = 8) (hlo : D.lost = false) : Op3 D (removeD D 3) ∧ ((removeD D 3).2 = 0 → fileOf (removeD D 3).1 3 = none) := by
  rw [removeD, there_3 hlo]
  cases hf : fileOf D 3 with
  | none => exact ⟨op3_rfl h8 hlo (by simp), fun h => hf⟩
  | some f =>
    simp only [Option.isNone_some, Bool.false_eq_true, if_false, ne_eq, not_true_eq_false]
    by_cases hz : D.fuse = 0
    · rw [if_pos hz]
      exact ⟨op3_lost h8, fun h => (by cases h)⟩
    · rw [if_neg hz]
      exact ⟨⟨by simpa using h8, fun n hn => fileOf_3 h8 hn, fun h => (by cases h), fun _ => hlo⟩, fun _ => fileOf_33 h8⟩
theorem append3 {D : Dk} {f : List UInt8} (h8 : D.fs.length = 8) (hlo : D.lost = false) (hno : fileOf D 3 = none) : Op3 D (appendD D 3 f) ∧ ((appendD D 3 f).2 = 0 → fileOf (appendD D 3 f).1 3 = some ⟨f, 0⟩) := by
  rw [appendD, ask_0 hlo ⟨by decide, by decide⟩, if_neg (by simp), hno]
  by_cases hfull : (f.length : Int) > D.cap - used D.fs
  · rw [if_pos hfull]
    exact ⟨op3_rfl h8 hlo (by simp), fun h => (by cases h)⟩
  rw [if_neg hfull]
  by_cases hz : D.fuse = 0
  · rw [if_pos hz]
    exact ⟨⟨by simpa using h8, fun n hn => fileOf_3 h8 hn, fun _ => rfl, fun h => (h rfl).elim⟩, fun h => (by cases h)⟩
  · rw [if_neg hz]
    exact ⟨⟨by simpa using h8, fun n hn => fileOf_3 h8 hn, fun h => (by cases h), fun _ => hlo⟩, fun _ => fileOf_33 h8⟩
theorem sync3 {D : Dk} {f : List UInt8} {s : Nat} (h8 : D.fs.length = 8) (hlo : D.lost = false) (hf : fileOf D 3 = some ⟨f, s⟩) : Op3 D (syncD D 3) ∧ ((syncD D 3).2 = 0 → fileOf (syncD D 3).1 3 = some ⟨f, f.length⟩) := by
  rw [syncD, there_3 hlo, hf]
  simp only [Option.isNone_some, Bool.false_eq_true, if_false, ne_eq, not_true_eq_false]
  by_cases hz : D.fuse = 0
  · rw [if_pos hz]
    exact ⟨op3_lost h8, fun h => (by cases h)⟩
  · rw [if_neg hz]
    exact ⟨⟨by simpa using h8, fun n hn => fileOf_3 h8 hn, fun h => (by cases h), fun _ => hlo⟩, fun _ => fileOf_33 h8⟩
theorem rename3 {D : Dk} {f : List UInt8} {file : Int} (h8 : D.fs.length = 8) (hlo : D.lost = false) (hfi : file = 1 ∨ file = 2) (hf : fileOf D 3 = some ⟨f, f.length⟩) :
    ((renameD D 3 (3 - file)).2 ≠ 0 → Op3 D (renameD D 3 (3 - file))) ∧ ((renameD D 3 (3 - file)).2 = 0 → (renameD D 3 (3 - file)).1.fs.length = 8 ∧ (renameD D 3 (3 - file)).1.lost = false ∧
      fileOf (renameD D 3 (3 - file)).1 (3 - file) = some ⟨f, f.length⟩ ∧ fileOf (renameD D 3 (3 - file)).1 file = fileOf D file ∧ fileOf (renameD D 3 (3 - file)).1 3 = none) := by
  have hn : 0 ≤ 3 - file ∧ 3 - file < 8 := by rcases hfi with h | h <;> rw [h] <;> decide
  have hn1 : 0 ≤ file ∧ file < 8 := by rcases hfi with h | h <;> rw [h] <;> decide
  have hne : ¬ (3 : Int) = 3 - file := by rcases hfi with h | h <;> rw [h] <;> decide
  rw [renameD, ask_0 hlo ⟨by decide, by decide⟩, if_neg (by simp), ask_0 hlo hn, if_neg (by simp), hf]
  simp only [Option.isNone_some, Bool.false_eq_true, if_false, Option.getD_some]
  rw [if_neg (fun h => h.elim hne (Nat.lt_irrefl _))]
  by_cases hz : D.fuse = 0
  · rw [if_pos hz]
    exact ⟨fun _ => op3_lost h8, fun h => (by cases h)⟩
  · rw [if_neg hz]
    refine ⟨fun h => (h rfl).elim, fun _ => ⟨by simpa using h8, hlo, ?_, ?_, ?_⟩⟩
    · have h1 := fileOf_setN (D := ⟨D.cap, D.fs.set (3 - file).toNat (some ⟨f, f.length⟩), 0, false⟩) (n := 3) (m := 3 - file) (o := none) (fuse := burnF D.fuse) (lost := D.lost) (by simpa using h8) ⟨by decide, by decide⟩ hn
      rw [if_neg (fun h => hne h.symm), fileOf_setN h8 hn hn, if_pos rfl] at h1
      exact h1
    · have h1 := fileOf_setN (D := ⟨D.cap, D.fs.set (3 - file).toNat (some ⟨f, f.length⟩), 0, false⟩) (n := 3) (m := file) (o := none) (fuse := burnF D.fuse) (lost := D.lost) (by simpa using h8) ⟨by decide, by decide⟩ hn1
      rw [if_neg (by rcases hfi with h | h <;> rw [h] <;> decide), fileOf_setN h8 hn hn1, if_neg (by rcases hfi with h | h <;> rw [h] <;> decide)] at h1
      exact h1
    · have h1 := fileOf_setN (D := ⟨D.cap, D.fs.set (3 - file).toNat (some ⟨f, f.length⟩), 0, false⟩) (n := 3) (m := 3) (o := none) (fuse := burnF D.fuse) (lost := D.lost) (by simpa using h8) ⟨by decide, by decide⟩ ⟨by decide, by decide⟩
      rw [if_pos rfl] at h1
      exact h1
theorem make_left {D : Dk} {f : List UInt8} {file : Int} (h8 : D.fs.length = 8) (hlo : D.lost = false) (hfi : file = 1 ∨ file = 2) :
    ((makeD D file f).2 ≠ 0 → Op3 D (makeD D file f)) ∧ ((makeD D file f).2 = 0 → (makeD D file f).1.fs.length = 8 ∧ (makeD D file f).1.lost = false ∧
      fileOf (makeD D file f).1 (3 - file) = some ⟨f, f.length⟩ ∧ fileOf (makeD D file f).1 file = fileOf D file ∧ fileOf (makeD D file f).1 3 = none) := by
  have hR := remove3 h8 hlo
  have hdef : makeD D file f = if (fileOf D 3).isSome ∧ (removeD D 3).2 ≠ 0 then removeD D 3
    else if (appendD (if (fileOf D 3).isSome then (removeD D 3).1 else D) 3 f).2 ≠ 0 then appendD (if (fileOf D 3).isSome then (removeD D 3).1 else D) 3 f
    else if (syncD (appendD (if (fileOf D 3).isSome then (removeD D 3).1 else D) 3 f).1 3).2 ≠ 0 then syncD (appendD (if (fileOf D 3).isSome then (removeD D 3).1 else D) 3 f).1 3
    else renameD (syncD (appendD (if (fileOf D 3).isSome then (removeD D 3).1 else D) 3 f).1 3).1 3 (3 - file) := rfl
  generalize removeD D 3 = R at *
  obtain ⟨DR, eR⟩ := R
  simp only at hR hdef
  by_cases h0 : (fileOf D 3).isSome ∧ eR ≠ 0
  · rw [if_pos h0] at hdef
    rw [hdef]
    exact ⟨fun _ => hR.1, fun h => (h0.2 h).elim⟩
  rw [if_neg h0] at hdef
  obtain ⟨D1, hD1, o1, hn1⟩ : ∃ D1, (if (fileOf D 3).isSome then DR else D) = D1 ∧ Op3 D (D1, 0) ∧ fileOf D1 3 = none := by
    cases hq : (fileOf D 3).isSome with
    | true =>
      have he : eR = 0 := Decidable.byContradiction fun h => h0 ⟨hq, h⟩
      subst he
      exact ⟨DR, rfl, hR.1, hR.2 rfl⟩
    | false => exact ⟨D, rfl, op3_rfl h8 hlo (by decide), by simpa using hq⟩
  rw [hD1] at hdef
  have hl1 : D1.lost = false := o1.live (by simp)
  have hA := append3 (f := f) o1.len hl1 hn1
  generalize appendD D1 3 f = R2 at *
  obtain ⟨D2, e2⟩ := R2
  simp only at hA hdef
  by_cases he2 : e2 ≠ 0
  · rw [if_pos he2] at hdef
    rw [hdef]
    exact ⟨fun _ => o1.trans hA.1, fun h => (he2 h).elim⟩
  rw [if_neg he2] at hdef
  have he2 : e2 = 0 := Decidable.byContradiction he2
  subst he2
  have hl2 : D2.lost = false := hA.1.live (by simp)
  have hS := sync3 hA.1.len hl2 (hA.2 rfl)
  generalize syncD D2 3 = R3 at *
  obtain ⟨D3, e3⟩ := R3
  simp only at hS hdef
  by_cases he3 : e3 ≠ 0
  · rw [if_pos he3] at hdef
    rw [hdef]
    exact ⟨fun _ => (o1.trans hA.1).trans hS.1, fun h => (he3 h).elim⟩
  rw [if_neg he3] at hdef
  have he3 : e3 = 0 := Decidable.byContradiction he3
  subst he3
  have o3 := (o1.trans hA.1).trans hS.1
  have hN := rename3 hS.1.len (hS.1.live (by simp)) hfi (hS.2 rfl)
  rw [hdef]
  refine ⟨fun h => o3.trans (hN.1 h), fun h => ?_⟩
  obtain ⟨a1, a2, a3, a4, a5⟩ := hN.2 h
  exact ⟨a1, a2, a3, a4.trans (o3.same file hfi), a5⟩
theorem Op3.keeps {D : Dk} {L : Lg} {R : Dk × Int} (o : Op3 D R) (w : L.wf) (h : Keeps D L) : Keeps R.1 L :=
  ⟨by rw [o.same _ w.file]; exact h.1, by rw [o.same _ (by rcases w.file with h | h <;> rw [h] <;> decide)]; exact h.2⟩
theorem Reach.symm {D : Dk} {A B : List UInt8 × List (List UInt8)} (h : Reach D A B) : Reach D B A := fun ks hk => by
  obtain ⟨L, h1, h2, h3, h4⟩ := h ks hk
  exact ⟨L, h1, h2, h3, h4.symm⟩
theorem compact_left {D : Dk} {L : Lg} {img : List UInt8} (ok : D.ok) (w : L.wf) (hlo : D.lost = false) (hov : L.over = false) (h : Keeps D L) :
    Left (compactL D L img).1 L (compactL D L img).2.1 (compactL D L img).2.2 (L.img, L.recs) (img, []) ∧
    ((compactL D L img).2.2 = 0 → fileOf (compactL D L img).1 L.file = none ∧ fileOf (compactL D L img).1 3 = none ∧ (compactL D L img).2.1 = ⟨3 - L.file, L.gen + 1, img, [], false⟩) := by
  obtain ⟨n1, n2, hne, hf3, hf3'⟩ := w.in8
  have h8 := ok.len
  have hg := w.gen
  have none4 : ∀ e : Int, e ≠ 0 → e ≠ 6 → Left D L L e (L.img, L.recs) (img, []) := fun e e1 e2 => ⟨w, fun h => (e1 h).elim, fun h => (e2 h).elim, fun _ _ => ⟨h, hlo, hov, rfl⟩⟩
  rw [compactL, if_neg (by rw [hov]; simp)]
  by_cases h1 : 60000 < img.length + 4
  · rw [if_pos h1]
    exact ⟨none4 4 (by decide) (by decide), fun h => (by cases h)⟩
  rw [if_neg h1]
  by_cases h2 : 2147483648 ≤ L.gen ∨ D.cap - used D.fs + szF (fileOf D 3) < (11 + img.length : Nat)
  · rw [if_pos h2]
    exact ⟨none4 5 (by decide) (by decide), fun h => (by cases h)⟩
  rw [if_neg h2]
  have hM := make_left (f := headF (L.gen + 1) img) h8 hlo w.file
  generalize makeD D L.file (headF (L.gen + 1) img) = R at *
  obtain ⟨D1, e1⟩ := R
  simp only at hM ⊢
  by_cases he : e1 ≠ 0
  · rw [if_pos he]
    have o := hM.1 he
    have hk := o.keeps w h
    refine ⟨⟨⟨w.file, w.gen, w.img, w.recs⟩, fun h => (he h).elim, fun h6 => ⟨by simp [overL, show e1 = 6 from h6], o.gone h6, keeps_reach o.len w hk⟩, fun _ h6 => ⟨hk, o.live h6, by simp [overL, show ¬ e1 = 6 from h6, hov], rfl⟩⟩, fun h => (he h).elim⟩
  rw [if_neg he]
  obtain ⟨a1, a2, a3, a4, a5⟩ := hM.2 (Decidable.byContradiction he)
  have hsome : (fileOf D1 L.file).isSome = true := by rw [a4, h.1]; rfl
  rw [hsome, if_pos rfl]
  have w1 : Lg.wf ⟨3 - L.file, L.gen + 1, img, [], false⟩ := ⟨by rcases w.file with h | h <;> simp [h], by show 1 ≤ L.gen + 1 ∧ L.gen + 1 ≤ _; omega, by show img.length + 4 ≤ _; omega, by simp⟩
  have hby : bytesOf ⟨3 - L.file, L.gen + 1, img, [], false⟩ = headF (L.gen + 1) img := by simp [bytesOf]
  have e33 : (3 : Int) - (3 - L.file) = L.file := by omega
  have hk1 : Keeps D1 ⟨3 - L.file, L.gen + 1, img, [], false⟩ := by
    refine ⟨by rw [hby]; exact a3, ?_⟩
    show Older (fileOf D1 (3 - (3 - L.file))) (L.gen + 1)
    rw [e33, a4, h.1]
    intro f hf x hx
    cases hf
    have := begins_bytes (t := []) w
    rw [List.append_nil] at this
    rw [this] at hx
    cases hx
    show L.gen < L.gen + 1
    omega
  have hrm : removeD D1 L.file = if D1.fuse = 0 then ({ D1 with lost := true }, 6) else ({ D1 with fs := D1.fs.set L.file.toNat none, fuse := burnF D1.fuse }, 0) := by
    have ht : thereE D1 L.file = 0 := by rw [there_at a2 n1.1 n1.2, a4, h.1]; rfl
    rw [removeD, ht, if_neg (by simp)]
  by_cases hz : D1.fuse = 0
  · rw [if_pos hz] at hrm
    rw [hrm]
    refine ⟨⟨⟨w1.file, w1.gen, w1.img, w1.recs⟩, fun h => (by cases h), fun _ => ⟨by simp [overL], rfl, ?_⟩, fun _ h => (h rfl).elim⟩, fun h => (by cases h)⟩
    exact (keeps_reach (D := { D1 with lost := true }) (B := (L.img, L.recs)) a1 w1 hk1).symm
  · rw [if_neg hz] at hrm
    rw [hrm]
    have hov0 : overL ⟨3 - L.file, L.gen + 1, img, [], L.over⟩ 0 = ⟨3 - L.file, L.gen + 1, img, [], false⟩ := by simp [overL, hov]
    simp only [hov0]
    have hf0 : fileOf { D1 with fs := D1.fs.set L.file.toNat none, fuse := burnF D1.fuse } L.file = none := (fileOf_setN a1 n1 n1).trans (if_pos rfl)
    refine ⟨⟨w1, fun _ => ⟨⟨?_, ?_⟩, a2, rfl, rfl⟩, fun h => (by cases h), fun h _ => (h rfl).elim⟩, fun _ => ⟨hf0, ?_, trivial⟩⟩
    · refine ((fileOf_setN a1 n1 n2).trans (if_neg hne)).trans ?_
      rw [hby]
      exact a3
    · show Older (fileOf _ (3 - (3 - L.file))) (L.gen + 1)
      rw [e33, hf0]
      intro f hf
      cases hf
    · refine ((fileOf_setN a1 n1 ⟨by decide, by decide⟩).trans (if_neg fun h => hf3 h.symm)).trans a5
end Go.Proofs.Ytnjjdpeglkiifaa.MX

/- The log: the law LogFull. -/
namespace Go.Proofs.Ytnjjdpeglkiifaa.MX
open Go Go.Proofs
set_option linter.unusedSimpArgs false
set_option linter.unusedVariables false
set_option maxHeartbeats 8000000
def dk0 (cap : Int) : Dk := ⟨cap, [none, none, none, none, none, none, none, none], -1, false⟩
def dk1 (cap : Int) (f : List UInt8) : Dk := ⟨cap, [none, some ⟨f, f.length⟩, none, none, none, none, none, none], -1, false⟩
theorem dk0_ok {cap : Int} (h : 0 ≤ cap ∧ cap ≤ 1048576) : (dk0 cap).ok := ⟨rfl, h, h.1, by show (-1 : Int) ≤ -1 ∧ (-1 : Int) < 9223372036854775808; decide, by simp [dk0]⟩
theorem used1 (cap : Int) (f : List UInt8) : used (dk1 cap f).fs = f.length := by simp [used, dk1, szF]
theorem dk1_ok {cap : Int} {f : List UInt8} (h : 0 ≤ cap ∧ cap ≤ 1048576) (hf : (f.length : Int) ≤ cap) : (dk1 cap f).ok := ⟨rfl, h, by rw [used1]; exact hf, by show (-1 : Int) ≤ -1 ∧ (-1 : Int) < 9223372036854775808; decide, by
  intro g hg
  simp [dk1] at hg
  subst hg
  exact Nat.le_refl _⟩
theorem find0 (cap : Int) : findL (dk0 cap) = lg0 := rfl
theorem make0 {cap : Int} {f : List UInt8} (hf : (f.length : Int) ≤ cap) : makeD (dk0 cap) 2 f = (dk1 cap f, 0) := by
  have h1 : appendD (dk0 cap) 3 f = (⟨cap, [none, none, none, some ⟨f, 0⟩, none, none, none, none], -1, false⟩, 0) := by
    have hu : used (dk0 cap).fs = 0 := rfl
    have ha : askE (dk0 cap) 3 = 0 := rfl
    rw [appendD, ha, if_neg (by simp), hu, if_neg (by show ¬ (f.length : Int) > cap - ((0 : Nat) : Int); omega), if_neg (by show ¬ ((-1 : Int) = 0); decide)]
    rfl
  have h2 : syncD ⟨cap, [none, none, none, some ⟨f, 0⟩, none, none, none, none], -1, false⟩ 3 = (⟨cap, [none, none, none, some ⟨f, f.length⟩, none, none, none, none], -1, false⟩, 0) := rfl
  have h3 : renameD ⟨cap, [none, none, none, some ⟨f, f.length⟩, none, none, none, none], -1, false⟩ 3 (3 - 2) = (dk1 cap f, 0) := by
    have h4 : fileOf ⟨cap, [none, none, none, some ⟨f, f.length⟩, none, none, none, none], -1, false⟩ 3 = some ⟨f, f.length⟩ := rfl
    have ha : askE ⟨cap, [none, none, none, some ⟨f, f.length⟩, none, none, none, none], -1, false⟩ 3 = 0 := rfl
    have hb : askE ⟨cap, [none, none, none, some ⟨f, f.length⟩, none, none, none, none], -1, false⟩ (3 - 2) = 0 := rfl
    rw [renameD, ha, hb, if_neg (by simp), if_neg (by simp), h4, if_neg (by simp), if_neg (by simp), if_neg (by show ¬ ((-1 : Int) = 0); decide)]
    rfl
  have hq : (fileOf (dk0 cap) 3).isSome = false := rfl
  rw [makeD, hq, if_neg (by simp)]
  simp only [Bool.false_eq_true, if_false, h1, h2, ne_eq, not_true_eq_false]
  exact h3
theorem create_long {cap : Int} {img : List UInt8} (h : 60000 < img.length + 4) : createL (dk0 cap) img = (dk0 cap, ⟨2, 0, [], [], false⟩, 4) := by
  rw [createL, compactL, if_neg (by simp), if_pos h]
theorem create_full {cap : Int} {img : List UInt8} (h : ¬ 60000 < img.length + 4) (hc : cap < (11 + img.length : Nat)) : createL (dk0 cap) img = (dk0 cap, ⟨2, 0, [], [], false⟩, 5) := by
  have hu : used (dk0 cap).fs = 0 := rfl
  have hz : szF (fileOf (dk0 cap) 3) = 0 := rfl
  rw [createL, compactL, if_neg (by simp), if_neg h, hu, hz, if_pos (.inr (by show cap - ((0 : Nat) : Int) + ((0 : Nat) : Int) < _; omega))]
theorem create_ok {cap : Int} {img : List UInt8} (h : ¬ 60000 < img.length + 4) (hc : ¬ cap < (11 + img.length : Nat)) : createL (dk0 cap) img = (dk1 cap (headF 1 img), ⟨1, 1, img, [], false⟩, 0) := by
  have hu : used (dk0 cap).fs = 0 := rfl
  have hz : szF (fileOf (dk0 cap) 3) = 0 := rfl
  have hm := make0 (cap := cap) (f := headF (0 + 1) img) (by rw [headF_len]; omega)
  rw [createL, compactL, if_neg (by simp), if_neg h, hu, hz, if_neg (by rintro (hx | hx); · exact absurd hx (by decide)
                                                                        · exact hc (by show cap < _; have : cap - ((0 : Nat) : Int) + ((0 : Nat) : Int) < ((11 + img.length : Nat) : Int) := hx; omega))]
  simp only [hm, ne_eq, not_true_eq_false, if_false]
  have hq : (fileOf (dk1 cap (headF (0 + 1) img)) 2).isSome = false := rfl
  rw [hq, if_neg (by simp)]
  rfl
theorem app_long (D : Dk) {img b : List UInt8} (h : b.length < 1 ∨ 4000 < b.length) : appendL D ⟨1, 1, img, [], false⟩ b = (D, ⟨1, 1, img, [], false⟩, 4) := by
  rw [appendL, if_neg (by simp), if_pos h]
theorem app_full {cap : Int} {f img b : List UInt8} (h : ¬ (b.length < 1 ∨ 4000 < b.length)) (hr : cap - (f.length : Int) < (b.length : Int) + 7) : appendL (dk1 cap f) ⟨1, 1, img, [], false⟩ b = (dk1 cap f, ⟨1, 1, img, [], false⟩, 5) := by
  have h1 : appendD (dk1 cap f) 1 (frameOf b) = (dk1 cap f, 5) := by
    have ha : askE (dk1 cap f) 1 = 0 := rfl
    rw [appendD, ha, if_neg (by simp), used1, frameOf_len, if_pos (by show ((7 + b.length : Nat) : Int) > cap - _; omega)]
  rw [appendL, if_neg (by simp), if_neg h]
  simp only [h1]
  rfl
theorem app_ok {cap : Int} {f img b : List UInt8} (h : ¬ (b.length < 1 ∨ 4000 < b.length)) (hr : ¬ cap - (f.length : Int) < (b.length : Int) + 7) : appendL (dk1 cap f) ⟨1, 1, img, [], false⟩ b = (dk1 cap (f ++ frameOf b), ⟨1, 1, img, [b], false⟩, 0) := by
  have h1 : appendD (dk1 cap f) 1 (frameOf b) = (⟨cap, [none, some ⟨f ++ frameOf b, f.length⟩, none, none, none, none, none, none], -1, false⟩, 0) := by
    have ha : askE (dk1 cap f) 1 = 0 := rfl
    rw [appendD, ha, if_neg (by simp), used1, frameOf_len, if_neg (by show ¬ ((7 + b.length : Nat) : Int) > cap - _; omega), if_neg (by show ¬ ((-1 : Int) = 0); decide)]
    rfl
  have h2 : syncD ⟨cap, [none, some ⟨f ++ frameOf b, f.length⟩, none, none, none, none, none, none], -1, false⟩ 1 = (dk1 cap (f ++ frameOf b), 0) := rfl
  rw [appendL, if_neg (by simp), if_neg h]
  simp only [h1, h2]
  rfl
theorem awake04_ok (h0 : Heap) : CallsH Try.prog 34 [] h0 fun v h' => v = .bool true ∧ Fr h0 h' [] := by
  have S := St.nil h0
  (refine enterK c_recouplaw04_awake (Nat.le_of_ble_eq_true rfl) fun K hK => ?_; (try simp (maxSteps := 1000000) (disch := first | omega | assumption | exact Nat.le_of_ble_eq_true rfl) only [go_sem, ↓mwp_block, simprocAttr, ir_recouplaw04_awake]))
  refine call_intro (New_ok 1000 S) ?_
  clear S
  rintro _ h (⟨_, _, d, rfl, S⟩ | ⟨hn, _⟩)
  case inr => exact absurd ⟨by decide, by decide⟩ hn
  have S : St h0 h (diskA d (dk0 1000) :: []) := S
  (try simp (maxSteps := 1000000) (disch := first | omega | assumption | exact Nat.le_of_ble_eq_true rfl) only [go_sem, ↓mwp_block, simprocAttr, zerosL])
  (refine st_alloc S ?_; clear S; intro b h S; (try simp only [splice_cons, splice_nil, List.set_cons_zero, List.set_cons_succ, Nat.zero_add, Nat.reduceAdd, List.cons_append, List.nil_append] at S); ((try clear F); have F := S.all; (try simp only [all_cons, all_nil, says_cell, and_true] at F)))
  (try simp (maxSteps := 1000000) (disch := first | omega | assumption | exact Nat.le_of_ble_eq_true rfl) only [go_sem, ↓mwp_block, simprocAttr])
  refine any_b2b (e := 5) rfl (by kernel_rfl) (by kernel_rfl) rfl S ?_
  clear S F
  intro h S
  (try simp (maxSteps := 1000000) (disch := first | omega | assumption | exact Nat.le_of_ble_eq_true rfl) only [go_sem, ↓mwp_block, simprocAttr])
  refine call_intro (Create_ok (img := [105]) (dk0_ok ⟨by decide, by decide⟩) rfl (find0 _) S.p1 (fun h' S => St.markArr (enc := bEnc) (sz := 1) (ys := [105]) bEnc_len S) (by decide)) ?_
  clear S
  rw [create_ok (by decide) (by decide)]
  rintro _ h (⟨_, p, rfl, S⟩ | ⟨hn, _⟩)
  case inr => exact absurd rfl hn
  simp only at S
  (try simp (maxSteps := 1000000) (disch := first | omega | assumption | exact Nat.le_of_ble_eq_true rfl) only [go_sem, ↓mwp_block, simprocAttr, zerosL])
  (refine st_alloc S ?_; clear S; intro b2 h S; (try simp only [splice_cons, splice_nil, List.set_cons_zero, List.set_cons_succ, Nat.zero_add, Nat.reduceAdd, List.cons_append, List.nil_append] at S); ((try clear F); have F := S.all; (try simp only [all_cons, all_nil, says_cell, and_true] at F)))
  (try simp (maxSteps := 1000000) (disch := first | omega | assumption | exact Nat.le_of_ble_eq_true rfl) only [go_sem, ↓mwp_block, simprocAttr])
  refine any_b2b (e := 5) rfl (by kernel_rfl) (by kernel_rfl) rfl S ?_
  clear S F
  intro h S
  (try simp (maxSteps := 1000000) (disch := first | omega | assumption | exact Nat.le_of_ble_eq_true rfl) only [go_sem, ↓mwp_block, simprocAttr])
  refine call_intro (AppendL_ok (b := [97]) (dk1_ok ⟨by decide, by decide⟩ (by rw [headF_len]; decide)) (by decide) S.p2.p2 (fun h' S => St.markArr (enc := bEnc) (sz := 1) (ys := [97]) bEnc_len S) (by decide)) ?_
  clear S
  rw [app_ok (by decide) (by rw [headF_len]; decide)]
  rintro _ h ⟨rfl, S⟩
  simp only at S
  (try simp (maxSteps := 1000000) (disch := first | omega | assumption | exact Nat.le_of_ble_eq_true rfl) only [go_sem, ↓mwp_block, simprocAttr])
  refine call_intro (LenL_ok S) ?_
  rintro _ _ ⟨rfl, rfl⟩
  (try simp (maxSteps := 1000000) (disch := first | omega | assumption | exact Nat.le_of_ble_eq_true rfl) only [go_sem, ↓mwp_block, simprocAttr])
  refine call_intro (GenL_ok S) ?_
  rintro _ _ ⟨rfl, rfl⟩
  (try simp (maxSteps := 1000000) (disch := first | omega | assumption | exact Nat.le_of_ble_eq_true rfl) only [go_sem, ↓mwp_block, simprocAttr])
  exact hK _ _ ⟨rfl, S.fr⟩
end Go.Proofs.Ytnjjdpeglkiifaa.MX
