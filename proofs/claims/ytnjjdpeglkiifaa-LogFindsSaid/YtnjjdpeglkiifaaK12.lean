/- Texts in one file: MXO, MXP, Fr2, In1. -/
import Derived.Test.YtnjjdpeglkiifaaK11
import Derived.OpenShut
import Derived.Deep.Slices
import Derived.SizedLaws

/- The engine, part O: what an argument's reading says of its cells. -/
namespace Go.Proofs.Ytnjjdpeglkiifaa.MX
open Go Go.ChangeShapes Go.Deep
set_option linter.unusedSimpArgs false
set_option linter.unusedVariables false

/-- Cells are those of a value of a type. -/
def Good (P : Program) (h : Heap) : Nat → TypeId → List Value → Prop
  | 0, _, _ => False
  | d + 1, t, cs =>
    (∀ k, P.underlying t = some (.int k) → ∃ n, cs = [.int k n] ∧ (Lit.int k n).wf = true) ∧
    (P.underlying t = some .bool → ∃ b, cs = [.bool b]) ∧
    (P.underlying t = some .string → ∃ s, cs = [.string s] ∧ s.size ≤ maxLen) ∧
    (∀ fs, P.underlying t = some (.struct fs) → cs.length = P.cellsOf t ∧ ∀ (j : Nat) f, fs[j]? = some f → Good P h d f.type ((cs.drop f.offset).take (P.cellsOf f.type))) ∧
    (∀ n e, P.underlying t = some (.array n e) → cs.length = P.cellsOf t ∧ ∀ i, i < n → Good P h d e ((cs.drop (i * P.cellsOf e)).take (P.cellsOf e))) ∧
    (∀ e, P.underlying t = some (.slice e) → cs = [.slice none 0 0] ∨ ∃ (a : Addr) (len cap : Nat), cs = [.slice (some a) len cap] ∧ len ≤ cap ∧ cap ≤ maxLen ∧ len * P.bytesOf e ≤ reachBytes ∧
      ∀ i, i < len → ∃ cs', (0 < P.cellsOf e → a.spot = none ∧ rdN h a.block (a.off + i * P.cellsOf e) (P.cellsOf e) = some cs') ∧ Good P h d e cs')

theorem rdN_of_cells {w : World} {b off n : Nat} {cs : List Value} (h0 : 0 < n) (hl : cs.length = n) (hc : ∀ i, i < n → w.cell? ⟨b, off + i, none⟩ = cs[i]?) : rdN w.heap b off n = some cs := by
  have hsome : ∀ i, i < n → ∃ v, w.cell? ⟨b, off + i, none⟩ = some v := fun i hi => ⟨cs[i]'(by omega), by rw [hc i hi, List.getElem?_eq_getElem (by omega)]⟩
  obtain ⟨c, e, f, hb⟩ : ∃ c e f, w.heap[b]? = some (.cells c e f) := by
    obtain ⟨v, hv⟩ := hsome 0 h0
    unfold World.cell? at hv
    split at hv
    · rename_i c e f hb; exact ⟨c, e, f, hb⟩
    · cases hv
  have hget : ∀ i, i < n → c.toList[off + i]? = cs[i]? := fun i hi => by
    rw [← hc i hi]
    simp [World.cell?, hb]
  have hle : off + n ≤ c.toList.length := by
    obtain ⟨v, hv⟩ := hsome (n - 1) (by omega)
    have := hget (n - 1) (by omega)
    rw [← hc _ (by omega), hv] at this
    have := (List.getElem?_eq_some_iff.1 this).1
    omega
  have hblk : blk w.heap b = some (c.toList, e, f) := by simp [blk, hb]
  rw [rdN_blk hblk hle]
  congr 1
  apply List.ext_getElem?
  intro i
  rw [List.getElem?_take, List.getElem?_drop]
  by_cases hi : i < n
  · rw [if_pos hi, hget i hi]
  · rw [if_neg hi, List.getElem?_eq_none (by omega)]

section
variable {H : Type} {enc : TypeId × Value → H} {P : Program} {w : World} {spare : Nat → Bool} {held : Bool}

theorem weights_mem_all {e : TypeId} {n : Nat} : ∀ {ds : List (DataW H)} {j : Nat} {d : DataW H}, ds[j]? = some d → n ∈ d.weights P e → n ∈ DataW.weightsAll P e ds
  | [], _, _, hd, _ => by simp at hd
  | d0 :: ds, 0, d, hd, hn => by
    simp only [List.getElem?_cons_zero, Option.some.injEq] at hd
    subst hd
    simp only [DataW.weightsAll, List.mem_append]
    exact .inl hn
  | d0 :: ds, j + 1, d, hd, hn => by
    simp only [List.getElem?_cons_succ] at hd
    simp only [DataW.weightsAll, List.mem_append]
    exact .inr (weights_mem_all hd hn)
theorem wts {ts : List TypeId} {ds : List (DataW H)} (h : (DataW.weightsEach P ts ds).all (· ≤ reachBytes) = true) {j : Nat} {t : TypeId} {d : DataW H} (ht : ts[j]? = some t) (hd : ds[j]? = some d) : ∀ n ∈ d.weights P t, n ≤ reachBytes := fun n hn => by
  have := List.all_eq_true.1 h _ (DataW.weights_mem_each ht hd n hn)
  simpa using this
theorem good_of : ∀ (fuel : Nat) {t : TypeId} {cs : List Value} {x : DataW H × List MemPlace}, DataW.trod enc P w 0 spare held fuel t cs = some x → (∀ n ∈ x.1.weights P t, n ≤ reachBytes) → Good P w.heap fuel t cs
  | 0, t, cs, x, h, _ => by simp [DataW.trod] at h
  | d + 1, t, cs, x, h, hw => by
    refine ⟨fun k hu => ?_, fun hu => ?_, fun hu => ?_, fun fs hu => ?_, fun n e hu => ?_, fun e hu => ?_⟩
    · unfold DataW.trod at h
      rw [hu] at h
      split at h <;> first | (rename_i heq; cases heq; done) | (rename_i heq _; cases heq; done) | skip
      all_goals first | (cases h; done) | skip
      · rename_i k k' n heq
        cases heq
        split at h
        · rename_i hk; obtain ⟨rfl, hw⟩ := hk; exact ⟨n, rfl, hw⟩
        · cases h
    · unfold DataW.trod at h
      rw [hu] at h
      split at h <;> first | (rename_i heq; cases heq; done) | (rename_i heq _; cases heq; done) | skip
      all_goals first | (cases h; done) | skip
      · exact ⟨_, rfl⟩
    · unfold DataW.trod at h
      rw [hu] at h
      split at h <;> first | (rename_i heq; cases heq; done) | (rename_i heq _; cases heq; done) | skip
      all_goals first | (cases h; done) | skip
      · rename_i s heq
        split at h
        · rename_i hs; exact ⟨s, rfl, hs⟩
        · cases h
    · obtain ⟨xs, n, hn, hx, hl, hlen, hf⟩ := DataW.trod_struct hu h
      cases hn
      subst hx
      simp only [DataW.weights, hu] at hw
      refine ⟨hl, fun j f hj => ?_⟩
      have hjl : j < xs.length := by rw [hlen]; exact (Array.getElem?_eq_some_iff.1 hj).1
      have := hf j f hj
      rw [List.getElem?_eq_getElem hjl] at this
      refine good_of d this fun n hn => hw n (DataW.weights_mem_each (j := j) (t := f.type) (by rw [List.getElem?_map, Array.getElem?_toList, hj]; rfl) (by rw [List.getElem?_map, List.getElem?_eq_getElem hjl]; rfl) n hn)
    · obtain ⟨xs, m, hm, hx, hl, hlen, hf⟩ := DataW.trod_array hu h
      cases hm
      subst hx
      simp only [DataW.weights, hu] at hw
      refine ⟨hl, fun i hi => ?_⟩
      have := hf i hi
      rw [List.getElem?_eq_getElem (by omega)] at this
      exact good_of d this fun n hn => hw n (weights_mem_all (j := i) (by rw [List.getElem?_map, List.getElem?_eq_getElem (by omega)]; rfl) hn)
    · rcases DataW.trod_slice hu h with ⟨h0, _⟩ | ⟨a, len, cap, elems, rest, n, hn, hcs, hx, _, hl, hm, hlen, hel, _⟩
      · exact .inl h0
      · cases hn
        subst hx
        simp only [DataW.weights, hu, List.length_map] at hw
        have hwl := hw _ (List.mem_cons_self ..)
        refine .inr ⟨a, len, cap, hcs, hl, hm, Nat.le_trans (Nat.mul_le_mul_right _ (by omega)) hwl, fun i hi => ?_⟩
        obtain ⟨cs', hc, ht⟩ := by
          have := hel i hi
          rw [List.getElem?_eq_getElem (by omega)] at this
          exact Option.bind_eq_some_iff.1 this
        refine ⟨cs', fun h0 => ?_, good_of d ht fun n hn => hw n (List.mem_cons_of_mem _ (List.mem_append_left _ (weights_mem_all (j := i) (by rw [List.getElem?_map, List.getElem?_eq_getElem (by omega)]; rfl) hn)))⟩
        obtain ⟨_, hcl, hat⟩ := World.cells?_some hc
        have hspot : a.spot = none := by
          obtain ⟨cs0, hc0, _⟩ := by
            have := hel 0 (by omega)
            rw [List.getElem?_eq_getElem (by omega)] at this
            exact Option.bind_eq_some_iff.1 this
          obtain ⟨_, hcl0, hat0⟩ := World.cells?_some hc0
          have h1 := hat0 0 h0
          rw [List.getElem?_eq_getElem (by omega)] at h1
          have h2 : (a.add (0 * P.cellsOf e)).add 0 = a := by simp [Addr.add]
          rw [h2] at h1
          cases hs : a.spot with
          | none => rfl
          | some s =>
            exfalso
            unfold World.cell? at h1
            rw [hs] at h1
            split at h1 <;> simp at h1
        refine ⟨hspot, ?_⟩
        obtain ⟨ab, ao, asp⟩ := a
        cases hspot
        refine rdN_of_cells h0 hcl fun i' hi' => ?_
        rw [← hat i' hi']
        simp only [add_none]
end
end Go.Proofs.Ytnjjdpeglkiifaa.MX

/- The engine, part P: an argument's cells, leaf by leaf. -/
namespace Go.Proofs.Ytnjjdpeglkiifaa.MX
open Go Go.ChangeShapes Go.Deep
set_option linter.unusedSimpArgs false
set_option linter.unusedVariables false

/-- A leaf of a type. -/
inductive LK where
  | int (k : IntKind) | bool | str | slice (e : TypeId)
  deriving DecidableEq
def fieldsL (lv : TypeId → Option (List LK)) (P : Program) : List Field → Nat → Option (List LK)
  | [], _ => some []
  | f :: fs, off => if f.offset = off then (lv f.type).bind fun l => if l.length = P.cellsOf f.type then (fieldsL lv P fs (off + l.length)).map (l ++ ·) else none else none
def leaves (P : Program) : Nat → TypeId → Option (List LK)
  | 0, _ => none
  | n + 1, t => match P.underlying t with
    | some (.int k) => some [.int k]
    | some .bool => some [.bool]
    | some .string => some [.str]
    | some (.slice e) => some [.slice e]
    | some (.struct fs) => (fieldsL (leaves P n) P fs.toList 0).bind fun l => if l.length = P.cellsOf t then some l else none
    | some (.array m e) => (leaves P n e).bind fun l => if l.length = P.cellsOf e ∧ P.cellsOf t = m * P.cellsOf e then some (List.replicate m l).flatten else none
    | _ => none

/-- A slice's elements are good. -/
def GoodS (P : Program) (h : Heap) (e : TypeId) (v : Value) : Prop :=
  v = .slice none 0 0 ∨ ∃ (a : Addr) (len cap d : Nat), v = .slice (some a) len cap ∧ len ≤ cap ∧ cap ≤ maxLen ∧ len * P.bytesOf e ≤ reachBytes ∧
    ∀ i, i < len → ∃ cs', (0 < P.cellsOf e → a.spot = none ∧ rdN h a.block (a.off + i * P.cellsOf e) (P.cellsOf e) = some cs') ∧ Good P h d e cs'
def LeavesOf (P : Program) (h : Heap) : List LK → List Value → Prop
  | [], cs => cs = []
  | .int k :: ls, cs => ∃ n cs', cs = .int k n :: cs' ∧ (Lit.int k n).wf = true ∧ LeavesOf P h ls cs'
  | .bool :: ls, cs => ∃ b cs', cs = .bool b :: cs' ∧ LeavesOf P h ls cs'
  | .str :: ls, cs => ∃ s cs', cs = .string s :: cs' ∧ s.size ≤ maxLen ∧ LeavesOf P h ls cs'
  | .slice e :: ls, cs => ∃ v cs', cs = v :: cs' ∧ GoodS P h e v ∧ LeavesOf P h ls cs'

variable {P : Program} {h : Heap}
theorem LeavesOf.append {l2 : List LK} {c2 : List Value} (h2 : LeavesOf P h l2 c2) : ∀ {l1 : List LK} {c1 : List Value}, LeavesOf P h l1 c1 → LeavesOf P h (l1 ++ l2) (c1 ++ c2)
  | [], c1, h1 => by cases h1; exact h2
  | .int k :: ls, c1, h1 => by obtain ⟨n, cs, rfl, w, hh⟩ := h1; exact ⟨n, cs ++ c2, rfl, w, LeavesOf.append h2 hh⟩
  | .bool :: ls, c1, h1 => by obtain ⟨n, cs, rfl, hh⟩ := h1; exact ⟨n, cs ++ c2, rfl, LeavesOf.append h2 hh⟩
  | .str :: ls, c1, h1 => by obtain ⟨n, cs, rfl, w, hh⟩ := h1; exact ⟨n, cs ++ c2, rfl, w, LeavesOf.append h2 hh⟩
  | .slice e :: ls, c1, h1 => by obtain ⟨n, cs, rfl, w, hh⟩ := h1; exact ⟨n, cs ++ c2, rfl, w, LeavesOf.append h2 hh⟩

theorem fields_of {lv : TypeId → Option (List LK)} {Q : TypeId → List Value → Prop} {cs : List Value} (hlv : ∀ t c l, Q t c → lv t = some l → LeavesOf P h l c) :
    ∀ {fs : List Field} {off : Nat} {ls : List LK}, fieldsL lv P fs off = some ls → off + ls.length = cs.length →
    (∀ (j : Nat) f, fs[j]? = some f → Q f.type ((cs.drop f.offset).take (P.cellsOf f.type))) → LeavesOf P h ls (cs.drop off)
  | [], off, ls, hl, hn, hq => by
    cases hl
    simp at hn
    subst hn
    simp [LeavesOf]
  | f :: fs, off, ls, hl, hn, hq => by
    unfold fieldsL at hl
    split at hl
    · rename_i ho
      obtain ⟨l, h1, h2⟩ := Option.bind_eq_some_iff.1 hl
      split at h2
      · rename_i hc
        obtain ⟨l2, h3, rfl⟩ := Option.map_eq_some_iff.1 h2
        have q0 := hlv _ _ _ (hq 0 f rfl) h1
        rw [ho, ← hc] at q0
        have q1 := fields_of hlv h3 (by simp at hn; omega) (fun j f' hj => hq (j + 1) f' (by simpa using hj))
        have := LeavesOf.append q1 q0
        rwa [show (cs.drop off).take l.length ++ cs.drop (off + l.length) = cs.drop off by rw [← List.drop_drop, List.take_append_drop]] at this
      · cases h2
    · cases hl

theorem reps_of {l : List LK} {cs : List Value} : ∀ {m k : Nat}, (k + m) * l.length = cs.length → (∀ i, i < k + m → LeavesOf P h l ((cs.drop (i * l.length)).take l.length)) → LeavesOf P h (List.replicate m l).flatten (cs.drop (k * l.length))
  | 0, k, hn, hq => by simp at hn; simp [LeavesOf, hn]
  | m + 1, k, hn, hq => by
    have q0 := hq k (by omega)
    have q1 := reps_of (l := l) (cs := cs) (m := m) (k := k + 1) (by rw [← hn]; congr 1; omega) (fun i hi => hq i (by omega))
    have := LeavesOf.append q1 q0
    rw [List.replicate_succ, List.flatten_cons]
    rwa [show (cs.drop (k * l.length)).take l.length ++ cs.drop ((k + 1) * l.length) = cs.drop (k * l.length) by rw [Nat.succ_mul, ← List.drop_drop, List.take_append_drop]] at this

theorem LeavesOf.len : ∀ {ls : List LK} {cs : List Value}, LeavesOf P h ls cs → cs.length = ls.length
  | [], _, hh => by cases hh; rfl
  | .int k :: ls, c1, h1 => by obtain ⟨n, cs, rfl, w, hh⟩ := h1; simp [hh.len]
  | .bool :: ls, c1, h1 => by obtain ⟨n, cs, rfl, hh⟩ := h1; simp [hh.len]
  | .str :: ls, c1, h1 => by obtain ⟨n, cs, rfl, w, hh⟩ := h1; simp [hh.len]
  | .slice e :: ls, c1, h1 => by obtain ⟨n, cs, rfl, w, hh⟩ := h1; simp [hh.len]

theorem leaves_of : ∀ (n : Nat) {d : Nat} {t : TypeId} {cs : List Value} {ls : List LK}, Good P h d t cs → leaves P n t = some ls → LeavesOf P h ls cs
  | 0, _, _, _, _, _, hl => by cases hl
  | n + 1, 0, _, _, _, hg, _ => hg.elim
  | n + 1, d + 1, t, cs, ls, hg, hl => by
    obtain ⟨gi, gb, gs, gf, ga, gl⟩ := hg
    unfold leaves at hl
    split at hl
    · rename_i k hu; cases hl; obtain ⟨m, rfl, w⟩ := gi k hu; exact ⟨m, [], rfl, w, rfl⟩
    · rename_i hu; cases hl; obtain ⟨b, rfl⟩ := gb hu; exact ⟨b, [], rfl, rfl⟩
    · rename_i hu; cases hl; obtain ⟨s, rfl, w⟩ := gs hu; exact ⟨s, [], rfl, w, rfl⟩
    · rename_i e hu
      cases hl
      rcases gl e hu with rfl | ⟨a, len, cap, rfl, h1, h2, hz, h3⟩
      · exact ⟨_, [], rfl, .inl rfl, rfl⟩
      · exact ⟨_, [], rfl, .inr ⟨a, len, cap, d, rfl, h1, h2, hz, h3⟩, rfl⟩
    · rename_i fs hu
      obtain ⟨l, h1, h2⟩ := Option.bind_eq_some_iff.1 hl
      split at h2
      · rename_i hc
        cases h2
        obtain ⟨hlen, hq⟩ := gf fs hu
        have := fields_of (P := P) (h := h) (Q := Good P h d) (cs := cs) (fun t c l hg' hl' => leaves_of n hg' hl') h1 (by omega) (fun j f hj => hq j f (by simpa using hj))
        simpa using this
      · cases h2
    · rename_i m e hu
      obtain ⟨l, h1, h2⟩ := Option.bind_eq_some_iff.1 hl
      split at h2
      · rename_i hc
        cases h2
        obtain ⟨hlen, hq⟩ := ga m e hu
        have := reps_of (P := P) (h := h) (l := l) (cs := cs) (m := m) (k := 0) (by rw [hlen, hc.2, hc.1]; simp) (fun i hi => by have := leaves_of n (hq i (by omega)) h1; rwa [hc.1])
        simpa using this
      · cases h2
    · cases hl

/-- A slice out of its elements' good cells. -/
theorem GoodS.arrZ {α : Type} {enc : α → List Value} {ok : α → Prop} {e sz : Nat} (hsz : P.cellsOf e = sz) (h0 : 0 < sz) {v : Value} (hg : GoodS P h e v)
    (hel : ∀ {d : Nat} {cs : List Value}, Good P h d e cs → ∃ x, cs = enc x ∧ ok x) :
    ∃ (A : Option Addr) (c : Nat) (xs : List α), v = .slice A xs.length c ∧ Arr enc sz h A xs ∧ xs.length ≤ c ∧ c ≤ maxLen ∧ xs.length * P.bytesOf e ≤ reachBytes ∧ ∀ x ∈ xs, ok x := by
  subst hsz
  rcases hg with rfl | ⟨a, len, cap, d, rfl, h1, h2, hz, h3⟩
  · exact ⟨none, 0, [], rfl, Arr.nil _ _ _ _, Nat.le_refl _, by decide, by simp [reachBytes], by simp⟩
  · have hx : ∀ i, i < len → ∃ x, (a.spot = none ∧ rdN h a.block (a.off + i * P.cellsOf e) (P.cellsOf e) = some (enc x)) ∧ ok x := fun i hi => by
      obtain ⟨cs, hr, hgd⟩ := h3 i hi
      obtain ⟨x, rfl, hok⟩ := hel hgd
      exact ⟨x, hr h0, hok⟩
    have : ∀ m, m ≤ len → ∃ xs : List α, xs.length = m ∧ ∀ i (hi : i < xs.length), (a.spot = none ∧ rdN h a.block (a.off + i * P.cellsOf e) (P.cellsOf e) = some (enc xs[i])) ∧ ok xs[i] := by
      intro m
      induction m with
      | zero => exact fun _ => ⟨[], rfl, fun i hi => absurd hi (by simp)⟩
      | succ m ih =>
        intro hm
        obtain ⟨xs, hl, hh⟩ := ih (by omega)
        obtain ⟨x, hxx⟩ := hx m (by omega)
        refine ⟨xs ++ [x], by simp [hl], fun i hi => ?_⟩
        by_cases hi' : i < xs.length
        · rw [List.getElem_append_left hi']; exact hh i hi'
        · have : i = m := by simp at hi; omega
          subst this
          rw [List.getElem_append_right (by omega)]
          simpa using hxx
    obtain ⟨xs, rfl, hh⟩ := this len (Nat.le_refl _)
    refine ⟨some a, cap, xs, rfl, fun i hi => ?_, h1, h2, hz, fun x hx => ?_⟩
    · obtain ⟨⟨hs, hr⟩, _⟩ := hh i hi
      obtain ⟨ab, ao, asp⟩ := a
      cases hs
      exact ⟨ab, ao, rfl, hr⟩
    · obtain ⟨i, hi, rfl⟩ := List.getElem_of_mem hx
      exact (hh i hi).2
theorem GoodS.arr {α : Type} {enc : α → List Value} {ok : α → Prop} {e sz : Nat} (hsz : P.cellsOf e = sz) (h0 : 0 < sz) {v : Value} (hg : GoodS P h e v)
    (hel : ∀ {d : Nat} {cs : List Value}, Good P h d e cs → ∃ x, cs = enc x ∧ ok x) :
    ∃ (A : Option Addr) (c : Nat) (xs : List α), v = .slice A xs.length c ∧ Arr enc sz h A xs ∧ xs.length ≤ c ∧ c ≤ maxLen ∧ ∀ x ∈ xs, ok x := by
  obtain ⟨A, c, xs, h1, h2, h3, h4, _, h5⟩ := GoodS.arrZ hsz h0 hg hel
  exact ⟨A, c, xs, h1, h2, h3, h4, h5⟩
end Go.Proofs.Ytnjjdpeglkiifaa.MX

/- Frames: by the program and by the document; the law FrameSums. -/
namespace Go.Proofs.Ytnjjdpeglkiifaa.MX
open Go Go.Proofs
set_option linter.unusedSimpArgs false
set_option linter.unusedVariables false

theorem put1 {v : Int} {bs : List UInt8} (h0 : 0 ≤ v) (h1 : v < 256) : putBs 1 v bs false = bs ++ le 1 v ∧ putBad 1 v false = false := by
  have : putBad 1 v false = false := by simp [putBad]; omega
  exact ⟨by simp [putBs, this], this⟩
theorem put2 {v : Int} {bs : List UInt8} (h0 : 0 ≤ v) (h1 : v < 65536) : putBs 2 v bs false = bs ++ le 2 v ∧ putBad 2 v false = false := by
  have : putBad 2 v false = false := by simp [putBad]; omega
  exact ⟨by simp [putBs, this], this⟩
theorem put4 {v : Int} {bs : List UInt8} (h0 : 0 ≤ v) (h1 : v < 4294967296) : putBs 4 v bs false = bs ++ le 4 v ∧ putBad 4 v false = false := by
  have : putBad 4 v false = false := by simp [putBad]; omega
  exact ⟨by simp [putBs, this], this⟩
theorem outNew {h0 h : Heap} {l : List HP} {o : Nat} (S : St h0 h (cellA o [.slice none 0 0, .bool false] 154 :: l)) : St h0 h (outA o [] false :: l) :=
  outA_open.2 ⟨_, (S.nilS).swap⟩

theorem Bytes2_ok {h0 h : Heap} {l : List HP} {o : Nat} {bs : List UInt8} {A : Option Addr} {c : Nat} {ys : List UInt8} (S : St h0 h (outA o bs false :: l)) (ha : ∀ h', St h0 h' l → Arr bEnc 1 h' A ys) (hl : bs.length + ys.length < 900000) (hy : ys.length < 65536) :
    CallsH Try.prog 123 [.pointer (some ⟨o, 0, none⟩), .slice A ys.length c] h fun r h' => St h0 h' (outA o (bs ++ le 2 ys.length ++ ys) false :: l) := by
  (refine enterK c_codec_Out_Bytes (Nat.le_of_ble_eq_true rfl) fun K hK => ?_; (try simp (maxSteps := 1000000) (disch := first | omega | assumption | exact Nat.le_of_ble_eq_true rfl) only [go_sem, ↓mwp_block, simprocAttr, ir_codec_Out_Bytes]))
  refine call_intro (U16_ok _ S ⟨by omega, by omega⟩ (by omega)) fun r h S => ?_
  rw [(put2 (by omega) (by omega)).1, (put2 (bs := []) (by omega) (by omega)).2] at S
  (try simp (maxSteps := 1000000) (disch := first | omega | assumption | exact Nat.le_of_ble_eq_true rfl) only [go_sem, ↓mwp_block, simprocAttr])
  refine call_intro (Plain_ok ys S (ha _ S.tl) (by simp only [List.length_append, le_length]; omega)) fun r h S => ?_
  (try simp (maxSteps := 1000000) (disch := first | omega | assumption | exact Nat.le_of_ble_eq_true rfl) only [go_sem, ↓mwp_block, simprocAttr])
  exact hK _ _ (by simpa using S)

/-- A frame's sum. -/
def fsum (ys : List UInt8) : Nat := sumOf (le 2 ys.length ++ ys)
theorem sum_ok {h0 h : Heap} {l : List HP} {A : Option Addr} {c : Nat} {ys : List UInt8} (S : St h0 h l) (ha : ∀ h', St h0 h' l → Arr bEnc 1 h' A ys) (hy : ys.length < 65536) :
    CallsH Try.prog 107 [.slice A ys.length c] h fun r h' => r = .int .u32 (fsum ys) ∧ St h0 h' l := by
  (refine enterK c_frame_sum (Nat.le_of_ble_eq_true rfl) fun K hK => ?_; (try simp (maxSteps := 1000000) (disch := first | omega | assumption | exact Nat.le_of_ble_eq_true rfl) only [go_sem, ↓mwp_block, simprocAttr, ir_frame_sum]))
  (refine st_alloc S ?_; clear S; intro o h S; (try simp only [splice_cons, splice_nil, List.set_cons_zero, List.set_cons_succ, Nat.zero_add, Nat.reduceAdd, List.cons_append, List.nil_append] at S); ((try clear F); have F := S.all; (try simp only [all_cons, all_nil, says_cell, and_true] at F)))
  (try simp (maxSteps := 1000000) (disch := first | omega | assumption | exact Nat.le_of_ble_eq_true rfl) only [go_sem, ↓mwp_block, simprocAttr])
  refine call_intro (Bytes2_ok (outNew S) ha (by simp; omega) hy) fun r h S => ?_
  (try simp (maxSteps := 1000000) (disch := first | omega | assumption | exact Nat.le_of_ble_eq_true rfl) only [go_sem, ↓mwp_block, simprocAttr])
  rw [List.nil_append] at S
  refine call_intro (End_ok S (by simp only [List.length_append, le_length]; omega)) ?_
  rintro _ h ⟨v, rfl, S⟩
  simp only [Bool.false_eq_true, if_false] at S
  obtain ⟨B, d, rfl⟩ := S.sl
  (try simp (maxSteps := 1000000) (disch := first | omega | assumption | exact Nat.le_of_ble_eq_true rfl) only [go_sem, ↓mwp_block, simprocAttr])
  refine call_intro (Sum_ok (S.arr bEnc_len) (by simp only [List.length_append, le_length]; omega)) ?_
  rintro _ _ ⟨rfl, rfl⟩
  (try simp (maxSteps := 1000000) (disch := first | omega | assumption | exact Nat.le_of_ble_eq_true rfl) only [go_sem, ↓mwp_block, simprocAttr])
  exact hK _ _ ⟨rfl, S.tl.tl⟩

/-- The frame of some bytes. -/
def frameOf (ys : List UInt8) : List UInt8 := le 1 165 ++ (le 2 ys.length ++ (le 4 (fsum ys) ++ ys))
theorem frameOf_len (ys : List UInt8) : (frameOf ys).length = 7 + ys.length := by simp [frameOf, le_length]; omega
theorem Frame_ok {h0 h : Heap} {l : List HP} {A : Option Addr} {c : Nat} {ys : List UInt8} (S : St h0 h l) (ha : ∀ h', St h0 h' l → Arr bEnc 1 h' A ys) (hy : ys.length < 9223372036854775808) :
    CallsH Try.prog 72 [.slice A ys.length c] h fun r h' => ((ys.length < 1 ∨ 60000 < ys.length) ∧ r = .tuple #[.slice none 0 0, .int .i64 4] ∧ St h0 h' l) ∨ (1 ≤ ys.length ∧ ys.length ≤ 60000 ∧ ∃ v, r = .tuple #[v, .int .i64 0] ∧ St h0 h' (ownA bEnc 1 5 v (frameOf ys) :: l)) := by
  by_cases h1 : ys.length < 1
  · (refine enterK c_frame_Frame (Nat.le_of_ble_eq_true rfl) fun K hK => ?_; (try simp (maxSteps := 1000000) (disch := first | omega | assumption | exact Nat.le_of_ble_eq_true rfl) only [go_sem, ↓mwp_block, simprocAttr, ir_frame_Frame]))
    exact hK _ _ (.inl ⟨.inl h1, rfl, S⟩)
  · by_cases h2 : 60000 < ys.length
    · (refine enterK c_frame_Frame (Nat.le_of_ble_eq_true rfl) fun K hK => ?_; (try simp (maxSteps := 1000000) (disch := first | omega | assumption | exact Nat.le_of_ble_eq_true rfl) only [go_sem, ↓mwp_block, simprocAttr, ir_frame_Frame]))
      exact hK _ _ (.inl ⟨.inr h2, rfl, S⟩)
    · (refine enterK c_frame_Frame (Nat.le_of_ble_eq_true rfl) fun K hK => ?_; (try simp (maxSteps := 1000000) (disch := first | omega | assumption | exact Nat.le_of_ble_eq_true rfl) only [go_sem, ↓mwp_block, simprocAttr, ir_frame_Frame]))
      (refine st_alloc S ?_; clear S; intro o h S; (try simp only [splice_cons, splice_nil, List.set_cons_zero, List.set_cons_succ, Nat.zero_add, Nat.reduceAdd, List.cons_append, List.nil_append] at S); ((try clear F); have F := S.all; (try simp only [all_cons, all_nil, says_cell, and_true] at F)))
      (try simp (maxSteps := 1000000) (disch := first | omega | assumption | exact Nat.le_of_ble_eq_true rfl) only [go_sem, ↓mwp_block, simprocAttr])
      refine call_intro (U8_ok _ (outNew S) ⟨by omega, by omega⟩ (by simp)) fun r h S => ?_
      rw [(put1 (by omega) (by omega)).1, (put1 (bs := []) (by omega) (by omega)).2, List.nil_append] at S
      (try simp (maxSteps := 1000000) (disch := first | omega | assumption | exact Nat.le_of_ble_eq_true rfl) only [go_sem, ↓mwp_block, simprocAttr])
      refine call_intro (U16_ok _ S ⟨by omega, by omega⟩ (by simp only [List.length_append, le_length]; omega)) fun r h S => ?_
      rw [(put2 (by omega) (by omega)).1, (put2 (bs := []) (by omega) (by omega)).2] at S
      (try simp (maxSteps := 1000000) (disch := first | omega | assumption | exact Nat.le_of_ble_eq_true rfl) only [go_sem, ↓mwp_block, simprocAttr])
      refine call_intro (sum_ok S (fun h' S => ha h' S.tl) (by omega)) ?_
      rintro _ h ⟨rfl, S⟩
      have hs := sum_lt (le 2 ys.length ++ ys)
      change fsum ys < _ at hs
      (try simp (maxSteps := 1000000) (disch := first | omega | assumption | exact Nat.le_of_ble_eq_true rfl) only [go_sem, ↓mwp_block, simprocAttr])
      refine call_intro (U32_ok _ S ⟨by omega, by omega⟩ (by simp only [List.length_append, le_length]; omega)) fun r h S => ?_
      rw [(put4 (by omega) (by omega)).1, (put4 (bs := []) (by omega) (by omega)).2] at S
      (try simp (maxSteps := 1000000) (disch := first | omega | assumption | exact Nat.le_of_ble_eq_true rfl) only [go_sem, ↓mwp_block, simprocAttr])
      refine call_intro (Plain_ok ys S (ha _ S.tl) (by simp only [List.length_append, le_length]; omega)) fun r h S => ?_
      (try simp (maxSteps := 1000000) (disch := first | omega | assumption | exact Nat.le_of_ble_eq_true rfl) only [go_sem, ↓mwp_block, simprocAttr])
      simp only [Bool.false_eq_true, if_false] at S
      refine call_intro (End_ok S (by simp only [List.length_append, le_length]; omega)) ?_
      rintro _ h ⟨v, rfl, S⟩
      simp only [Bool.false_eq_true, if_false] at S
      (try simp (maxSteps := 1000000) (disch := first | omega | assumption | exact Nat.le_of_ble_eq_true rfl) only [go_sem, ↓mwp_block, simprocAttr])
      refine hK _ _ (.inr ⟨by omega, by omega, v, rfl, ?_⟩)
      have S := S.d1
      simpa only [frameOf, List.append_assoc] using S

structure U8 where
  n : UInt8
def U8.enc (x : U8) : List Value := bEnc x.n
def U8.ok (x : U8) : Prop := True
theorem u8_of {h : Heap} {d : Nat} {cs : List Value} (hg : Good Try.prog h d 5 cs) : ∃ x : U8, cs = x.enc ∧ x.ok := by
  have hl : leaves Try.prog 2 5 = some [.int .u8] := by kernel_rfl
  obtain ⟨a0, _, rfl, w0, rfl⟩ := leaves_of 2 hg hl
  have hw := wf_u8 w0
  refine ⟨⟨B8 a0⟩, ?_, trivial⟩
  rw [U8.enc, ← bEnc_B8 hw.1 hw.2]
theorem arrU8 {h : Heap} {A : Option Addr} {xs : List U8} (ha : Arr U8.enc 1 h A xs) : Arr bEnc 1 h A (xs.map U8.n) := by
  intro i hi
  obtain ⟨b, off, hA, hr⟩ := ha i (by simpa using hi)
  exact ⟨b, off, hA, by rw [hr, List.getElem_map]; rfl⟩

end Go.Proofs.Ytnjjdpeglkiifaa.MX

/- What is read: numbers and bytes taken one behind the other (codec.In). -/
namespace Go.Proofs.Ytnjjdpeglkiifaa.MX
open Go Go.Proofs
set_option linter.unusedSimpArgs false
set_option linter.unusedVariables false

/-- Bytes that can be read at some places. -/
def vBlk (x : Option Addr × List UInt8) : List Nat := if x.2 = [] then [] else match x.1 with | some a => [a.block] | none => []
def viewsA (L : List (Option Addr × List UInt8)) : HP where
  P h B := (∀ x ∈ L, Arr bEnc 1 h x.1 x.2) ∧ B = L.flatMap vBlk
  loc := fun {h h' B} ⟨ha, hb⟩ hk => ⟨fun x hx => (ha x hx).keep fun b off hA hne => by
    have : b ∈ B := by
      rw [hb]
      refine List.mem_flatMap.2 ⟨x, hx, ?_⟩
      simp only [vBlk, if_neg hne, hA, List.mem_singleton]
    simp only [blk, hk b this], hb⟩
  lt := fun {h B} ⟨ha, hb⟩ b hm => by
    rw [hb] at hm
    obtain ⟨x, hx, hm⟩ := List.mem_flatMap.1 hm
    unfold vBlk at hm
    split at hm
    · cases hm
    · rename_i hne
      split at hm
      · rename_i a hA
        simp only [List.mem_singleton] at hm
        obtain ⟨b', off', hA', hr⟩ := ha x hx 0 (List.length_pos_iff.2 hne)
        rw [hA] at hA'
        cases hA'
        subst hm
        exact rdN_lt hr
      · cases hm
theorem St.view {h0 h : Heap} {l : List HP} {L : List (Option Addr × List UInt8)} (S : St h0 h (viewsA L :: l)) {x : Option Addr × List UInt8} (hx : x ∈ L) : Arr bEnc 1 h x.1 x.2 := by
  obtain ⟨B, hp, _⟩ := S.hd
  exact hp.1 x hx
theorem St.reView {h0 h : Heap} {l : List HP} {L M : List (Option Addr × List UInt8)} (S : St h0 h (viewsA L :: l)) (ha : ∀ x ∈ M, Arr bEnc 1 h x.1 x.2) (hs : ∀ x ∈ M, ∀ b ∈ vBlk x, ∃ y ∈ L, b ∈ vBlk y) : St h0 h (viewsA M :: l) := by
  obtain ⟨B, hp, _, hup⟩ := S.hd
  refine hup h _ (M.flatMap vBlk) (Fr.refl _ _) ⟨ha, rfl⟩ fun b hm => .inl ?_
  obtain ⟨x, hx, hb⟩ := List.mem_flatMap.1 hm
  obtain ⟨y, hy, hb'⟩ := hs x hx b hb
  rw [hp.2]
  exact List.mem_flatMap.2 ⟨y, hy, hb'⟩
theorem arr_take {h : Heap} {A : Option Addr} {xs : List UInt8} (ha : Arr bEnc 1 h A xs) (n : Nat) : Arr bEnc 1 h A (xs.take n) := by
  intro i hi
  obtain ⟨b, off, hA, hr⟩ := ha i (by simp at hi; omega)
  exact ⟨b, off, hA, by rw [hr, List.getElem_take]⟩
theorem arr_drop {h : Heap} {b off : Nat} {xs : List UInt8} (ha : Arr bEnc 1 h (some ⟨b, off, none⟩) xs) (n : Nat) : Arr bEnc 1 h (some ⟨b, off + n, none⟩) (xs.drop n) := by
  intro i hi
  obtain ⟨b', off', hA, hr⟩ := ha (n + i) (by simp at hi; omega)
  cases hA
  refine ⟨b, off + n, rfl, ?_⟩
  rw [List.getElem_drop, ← hr]
  congr 1
  omega

def inA (i : Nat) (bs : List UInt8) (bad : Bool) : HP := exA fun s : Option Addr × Nat => starsA [cellA i [.slice s.1 bs.length s.2, .bool bad] 171, pureA (bs.length ≤ s.2 ∧ s.2 < 9223372036854775808 ∧ ∀ a, s.1 = some a → a.spot = none), viewsA [(s.1, bs)]]
theorem inA_open {h0 h : Heap} {l : List HP} {i : Nat} {bs : List UInt8} {bad : Bool} : St h0 h (inA i bs bad :: l) ↔ ∃ A c, (bs.length ≤ c ∧ c < 9223372036854775808 ∧ ∀ a : Addr, A = some a → a.spot = none) ∧ St h0 h (cellA i [.slice A bs.length c, .bool bad] 171 :: viewsA [(A, bs)] :: l) := by
  refine St.ex.trans ⟨?_, ?_⟩
  · rintro ⟨⟨A, c⟩, S⟩
    have S := St.stars.1 S
    have S := S.p1
    obtain ⟨hp, S⟩ := St.pure.1 S
    exact ⟨A, c, hp, S⟩
  · rintro ⟨A, c, hp, S⟩
    refine ⟨(A, c), St.stars.2 ?_⟩
    exact (St.pure.2 ⟨hp, S⟩).p1

theorem fail_ok {h0 h : Heap} {l : List HP} {i : Nat} {bs : List UInt8} {bad : Bool} (S : St h0 h (inA i bs bad :: l)) :
    CallsH Try.prog 132 [.pointer (some ⟨i, 0, none⟩)] h fun r h' => St h0 h' (inA i [] true :: l) := by
  obtain ⟨A, c, hp, S⟩ := inA_open.1 S
  (refine enterK c_codec_In_fail (Nat.le_of_ble_eq_true rfl) fun K hK => ?_; (try simp (maxSteps := 1000000) (disch := first | omega | assumption | exact Nat.le_of_ble_eq_true rfl) only [go_sem, ↓mwp_block, simprocAttr, ir_codec_In_fail]))
  (refine st_store (by first | exact S | exact S.p1 | exact S.p2 | exact S.p3 | exact S.p4 | exact S.p5 | exact S.p6 | exact S.p7 | exact S.p8 | exact S.p9 | exact S.p10 | exact S.p11) (by rfl) (by rfl) (Nat.le_of_ble_eq_true rfl) ?_; clear S; intro h S; (try simp only [splice_cons, splice_nil, List.set_cons_zero, List.set_cons_succ, Nat.zero_add, Nat.reduceAdd, List.cons_append, List.nil_append] at S); ((try clear F); have F := S.all; (try simp only [all_cons, all_nil, says_cell, and_true] at F)))
  (try simp (maxSteps := 1000000) (disch := first | omega | assumption | exact Nat.le_of_ble_eq_true rfl) only [go_sem, ↓mwp_block, simprocAttr])
  (refine st_store (by first | exact S | exact S.p1 | exact S.p2 | exact S.p3 | exact S.p4 | exact S.p5 | exact S.p6 | exact S.p7 | exact S.p8 | exact S.p9 | exact S.p10 | exact S.p11) (by rfl) (by rfl) (Nat.le_of_ble_eq_true rfl) ?_; clear S; intro h S; (try simp only [splice_cons, splice_nil, List.set_cons_zero, List.set_cons_succ, Nat.zero_add, Nat.reduceAdd, List.cons_append, List.nil_append] at S); ((try clear F); have F := S.all; (try simp only [all_cons, all_nil, says_cell, and_true] at F)))
  (try simp (maxSteps := 1000000) (disch := first | omega | assumption | exact Nat.le_of_ble_eq_true rfl) only [go_sem, ↓mwp_block, simprocAttr])
  refine hK _ _ (inA_open.2 ⟨none, 0, ⟨by simp, by decide, by simp⟩, ?_⟩)
  have S := S.p1.reView (M := [(none, [])]) (by intro x hx; simp at hx; subst hx; exact Arr.nil _ _ _ _) (by intro x hx b hb; simp at hx; subst hx; simp [vBlk] at hb)
  exact S.p1

theorem vBlk_sub {A : Option Addr} {xs ys : List UInt8} (hne : ys = [] → xs = []) : ∀ b ∈ vBlk (A, xs), b ∈ vBlk (A, ys) := by
  intro b hb
  unfold vBlk at hb ⊢
  split at hb
  · cases hb
  · rename_i h1
    rw [if_neg (fun h2 => h1 (hne h2))]
    exact hb

theorem St.split2 {h0 h : Heap} {l : List HP} {b off : Nat} {bs : List UInt8} (S : St h0 h (viewsA [(some ⟨b, off, none⟩, bs)] :: l)) (n : Nat) :
    St h0 h (viewsA [(some ⟨b, off, none⟩, bs.take n), (some ⟨b, off + n, none⟩, bs.drop n)] :: l) := by
  have hv := S.view (x := (some ⟨b, off, none⟩, bs)) (by simp)
  refine S.reView ?_ ?_
  · intro x hx
    simp only [List.mem_cons, List.not_mem_nil, or_false] at hx
    rcases hx with rfl | rfl
    · exact arr_take hv n
    · exact arr_drop hv n
  · intro x hx b' hb'
    refine ⟨_, List.mem_singleton.2 rfl, ?_⟩
    simp only [List.mem_cons, List.not_mem_nil, or_false] at hx
    rcases hx with rfl | rfl <;>
    · unfold vBlk at hb' ⊢
      split at hb'
      · cases hb'
      · rename_i h1
        rw [if_neg (fun h2 => h1 (by simp only at h2 ⊢; rw [h2]; simp))]
        exact hb'
theorem St.split1 {h0 h : Heap} {l : List HP} {A : Option Addr} {bs : List UInt8} (S : St h0 h (viewsA [(A, bs)] :: l)) (B : Option Addr) :
    St h0 h (viewsA [(A, bs), (B, [])] :: l) := by
  have hv := S.view (x := (A, bs)) (by simp)
  refine S.reView ?_ ?_
  · intro x hx
    simp only [List.mem_cons, List.not_mem_nil, or_false] at hx
    rcases hx with rfl | rfl
    · exact hv
    · exact Arr.nil _ _ _ _
  · intro x hx b' hb'
    simp only [List.mem_cons, List.not_mem_nil, or_false] at hx
    rcases hx with rfl | rfl
    · exact ⟨_, List.mem_singleton.2 rfl, hb'⟩
    · simp [vBlk] at hb'

/-- What is taken, and what is left, stand in one block. -/
theorem take_ok (n : Nat) {h0 h : Heap} {l : List HP} {i : Nat} {bs : List UInt8} (S : St h0 h (inA i bs false :: l)) (hn : n ≤ bs.length) (hl : bs.length < 1000000000) :
    CallsH Try.prog 131 [.pointer (some ⟨i, 0, none⟩), .int .i64 n] h fun r h' => ∃ A B c, r = .slice A n n ∧ ((bs.drop n).length ≤ c ∧ c < 9223372036854775808 ∧ ∀ a : Addr, B = some a → a.spot = none) ∧
      St h0 h' (cellA i [.slice B (bs.drop n).length c, .bool false] 171 :: viewsA [(A, bs.take n), (B, bs.drop n)] :: l) := by
  obtain ⟨A, c, ⟨hp1, hp2, hp3⟩, S⟩ := inA_open.1 S
  have hv := S.p1.view (x := (A, bs)) (by simp)
  have hdl : (bs.drop n).length = bs.length - n := List.length_drop
  have hnil : bs.take n = [] → bs.drop n = [] → bs = [] := fun h1 h2 => by rw [← List.take_append_drop n bs, h1, h2]; rfl
  (refine enterK c_codec_In_take (Nat.le_of_ble_eq_true rfl) fun K hK => ?_; (try simp (maxSteps := 1000000) (disch := first | omega | assumption | exact Nat.le_of_ble_eq_true rfl) only [go_sem, ↓mwp_block, simprocAttr, ir_codec_In_take]))
  ((try clear F); have F := S.all; (try simp only [all_cons, all_nil, says_cell, and_true] at F))
  (try simp (maxSteps := 1000000) (disch := first | omega | assumption | exact Nat.le_of_ble_eq_true rfl) only [go_sem, ↓mwp_block, simprocAttr, F])
  cases A with
  | none =>
    have hb : bs = [] := by
      cases bs with
      | nil => rfl
      | cons x xs => obtain ⟨b, off, hA, _⟩ := hv 0 (by simp); cases hA
    subst hb
    simp only [List.length_nil, Nat.le_zero] at hn
    subst hn
    (try simp (maxSteps := 1000000) (disch := first | omega | assumption | exact Nat.le_of_ble_eq_true rfl) only [go_sem, ↓mwp_block, simprocAttr, F])
    (refine st_store (by first | exact S | exact S.p1 | exact S.p2 | exact S.p3 | exact S.p4 | exact S.p5 | exact S.p6 | exact S.p7 | exact S.p8 | exact S.p9 | exact S.p10 | exact S.p11) (by rfl) (by rfl) (Nat.le_of_ble_eq_true rfl) ?_; clear S; intro h S; (try simp only [splice_cons, splice_nil, List.set_cons_zero, List.set_cons_succ, Nat.zero_add, Nat.reduceAdd, List.cons_append, List.nil_append] at S); ((try clear F); have F := S.all; (try simp only [all_cons, all_nil, says_cell, and_true] at F)))
    (try simp (maxSteps := 1000000) (disch := first | omega | assumption | exact Nat.le_of_ble_eq_true rfl) only [go_sem, ↓mwp_block, simprocAttr])
    refine hK _ _ ⟨none, none, c, rfl, ⟨by simp, hp2, by simp⟩, ?_⟩
    exact (S.p1.split1 none).p1
  | some a =>
    have ha := hp3 a rfl
    obtain ⟨b, off, sp⟩ := a
    cases ha
    by_cases hnc : n < c
    · (try simp (maxSteps := 1000000) (disch := first | omega | assumption | exact Nat.le_of_ble_eq_true rfl) only [go_sem, ↓mwp_block, simprocAttr, F])
      (refine st_store (by first | exact S | exact S.p1 | exact S.p2 | exact S.p3 | exact S.p4 | exact S.p5 | exact S.p6 | exact S.p7 | exact S.p8 | exact S.p9 | exact S.p10 | exact S.p11) (by rfl) (by rfl) (Nat.le_of_ble_eq_true rfl) ?_; clear S; intro h S; (try simp only [splice_cons, splice_nil, List.set_cons_zero, List.set_cons_succ, Nat.zero_add, Nat.reduceAdd, List.cons_append, List.nil_append] at S); ((try clear F); have F := S.all; (try simp only [all_cons, all_nil, says_cell, and_true] at F)))
      (try simp (maxSteps := 1000000) (disch := first | omega | assumption | exact Nat.le_of_ble_eq_true rfl) only [go_sem, ↓mwp_block, simprocAttr])
      refine hK _ _ ⟨some ⟨b, off, none⟩, some ⟨b, off + n, none⟩, c - n, rfl, ⟨by omega, by omega, by simp⟩, ?_⟩
      rw [hdl]
      simp only [Nat.mul_one] at S
      exact (S.p1.split2 n).p1
    · obtain rfl : n = c := by omega
      obtain rfl : n = bs.length := by omega
      (try simp (maxSteps := 1000000) (disch := first | omega | assumption | exact Nat.le_of_ble_eq_true rfl) only [go_sem, ↓mwp_block, simprocAttr, F])
      (refine st_store (by first | exact S | exact S.p1 | exact S.p2 | exact S.p3 | exact S.p4 | exact S.p5 | exact S.p6 | exact S.p7 | exact S.p8 | exact S.p9 | exact S.p10 | exact S.p11) (by rfl) (by rfl) (Nat.le_of_ble_eq_true rfl) ?_; clear S; intro h S; (try simp only [splice_cons, splice_nil, List.set_cons_zero, List.set_cons_succ, Nat.zero_add, Nat.reduceAdd, List.cons_append, List.nil_append] at S); ((try clear F); have F := S.all; (try simp only [all_cons, all_nil, says_cell, and_true] at F)))
      (try simp (maxSteps := 1000000) (disch := first | omega | assumption | exact Nat.le_of_ble_eq_true rfl) only [go_sem, ↓mwp_block, simprocAttr])
      refine hK _ _ ⟨some ⟨b, off, none⟩, some ⟨b, off, none⟩, 0, rfl, ⟨by simp, by decide, by simp⟩, ?_⟩
      rw [List.take_length, List.drop_length]
      exact (S.p1.split1 _).p1

/-! What a reading of n bytes yields, and leaves. -/
def rdV (n : Nat) (bs : List UInt8) (bad : Bool) : Int := if bad = true ∨ bs.length < n then 0 else num (bs.take n)
def rdB (n : Nat) (bs : List UInt8) (bad : Bool) : List UInt8 := if bad = true ∨ bs.length < n then [] else bs.drop n
def rdX (n : Nat) (bs : List UInt8) (bad : Bool) : Bool := bad || decide (bs.length < n)
theorem take_bad (n : Nat) {h0 h : Heap} {l : List HP} {i : Nat} {bs : List UInt8} {bad : Bool} (S : St h0 h (inA i bs bad :: l)) (hn : bad = true ∨ bs.length < n) (hl : bs.length < 1000000000) (hn8 : n < 1000000000) :
    CallsH Try.prog 131 [.pointer (some ⟨i, 0, none⟩), .int .i64 n] h fun r h' => r = .slice none 0 0 ∧ St h0 h' (inA i [] true :: l) := by
  (refine enterK c_codec_In_take (Nat.le_of_ble_eq_true rfl) fun K hK => ?_; (try simp (maxSteps := 1000000) (disch := first | omega | assumption | exact Nat.le_of_ble_eq_true rfl) only [go_sem, ↓mwp_block, simprocAttr, ir_codec_In_take]))
  obtain ⟨A, c, hp, S⟩ := inA_open.1 S
  ((try clear F); have F := S.all; (try simp only [all_cons, all_nil, says_cell, and_true] at F))
  cases bad
  · have hn : bs.length < n := by simpa using hn
    (try simp (maxSteps := 1000000) (disch := first | omega | assumption | exact Nat.le_of_ble_eq_true rfl) only [go_sem, ↓mwp_block, simprocAttr, F])
    refine call_intro (fail_ok (inA_open.2 ⟨A, c, hp, S⟩)) fun r h S => ?_
    (try simp (maxSteps := 1000000) (disch := first | omega | assumption | exact Nat.le_of_ble_eq_true rfl) only [go_sem, ↓mwp_block, simprocAttr])
    exact hK _ _ ⟨rfl, S⟩
  · (try simp (maxSteps := 1000000) (disch := first | omega | assumption | exact Nat.le_of_ble_eq_true rfl) only [go_sem, ↓mwp_block, simprocAttr, F])
    refine call_intro (fail_ok (inA_open.2 ⟨A, c, hp, S⟩)) fun r h S => ?_
    (try simp (maxSteps := 1000000) (disch := first | omega | assumption | exact Nat.le_of_ble_eq_true rfl) only [go_sem, ↓mwp_block, simprocAttr])
    exact hK _ _ ⟨rfl, S⟩

theorem lor_add {v c k : Nat} (hv : v < 2 ^ k) : v ||| c * 2 ^ k = v + c * 2 ^ k := by
  have := Nat.shiftLeft_add_eq_or_of_lt hv c
  rw [Nat.shiftLeft_eq] at this
  rw [Nat.or_comm, ← this, Nat.add_comm]
theorem num_take_succ (bs : List UInt8) {i : Nat} (hi : i < bs.length) : num (bs.take (i + 1)) = num (bs.take i) + bs[i].toNat * 256 ^ i := by
  rw [List.take_succ_eq_append_getElem hi, num_append, List.length_take, Nat.min_eq_left (by omega)]
  simp only [num, Int.mul_zero, Int.add_zero]
  rw [Int.mul_comm]
theorem bor64 {v c : Nat} {k : Nat} (hv : v < 256 ^ k) (hc : c < 256) (hk : k < 8) : binV .or (.int .u64 (v : Int)) (.int .u64 (c * 256 ^ k : Nat)) = some (.int .u64 ((v + c * 256 ^ k : Nat) : Int)) := by
  have h256 : (256 : Nat) ^ k = 2 ^ (8 * k) := by rw [Nat.pow_mul]
  have h8 : c * 256 ^ k + 256 ^ k ≤ 256 ^ 8 := by
    have : c * 256 ^ k + 256 ^ k = (c + 1) * 256 ^ k := by rw [Nat.succ_mul]
    rw [this]
    calc (c + 1) * 256 ^ k ≤ 256 * 256 ^ k := Nat.mul_le_mul_right _ (by omega)
      _ = 256 ^ (k + 1) := by rw [Nat.pow_succ, Nat.mul_comm]
      _ ≤ 256 ^ 8 := Nat.pow_le_pow_right (by decide) (by omega)
  have hb : (256 : Nat) ^ 8 = 18446744073709551616 := by decide
  rw [hb] at h8
  have e1 : (BitVec.ofInt IntKind.u64.bits (v : Int)).toNat = v := by
    rw [BitVec.toNat_ofInt]
    have : ((2 ^ IntKind.u64.bits : Nat) : Int) = 18446744073709551616 := rfl
    rw [this, Int.emod_eq_of_lt (by omega) (by omega)]
    rfl
  have e2 : (BitVec.ofInt IntKind.u64.bits ((c * 256 ^ k : Nat) : Int)).toNat = c * 256 ^ k := by
    rw [BitVec.toNat_ofInt]
    have : ((2 ^ IntKind.u64.bits : Nat) : Int) = 18446744073709551616 := rfl
    rw [this, Int.emod_eq_of_lt (by omega) (by omega)]
    rfl
  rw [bin_or, BitVec.toNat_or, e1, e2, h256, lor_add (by rw [← h256]; exact hv), ← h256, wrap_u64 (by omega) (by omega)]
end Go.Proofs.Ytnjjdpeglkiifaa.MX
