import Derived.Test.YtcgbhcgfdcfmaaaGreatK31
import Derived.Test.YtcgbhcgfdcfmaaaGreatK12
namespace Go.Proofs.YtcgbhcgfdcfmaaaGreat.MX
open Go Go.Proofs
set_option linter.unusedSimpArgs false
set_option linter.unusedVariables false
section
set_option maxHeartbeats 1000000
def putS (f : Int → Option Msg) (m : Msg) : Int → Option Msg := fun k => if k = m.key then some m else f k
def putL (f : Int → Option Msg) (l : List Msg) : Int → Option Msg := l.foldl putS f
def okS (f : Int → Option Msg) (m : Msg) : Prop := ∀ x, f m.key = some x → x.kind = m.kind ∧ x.rma = m.rma ∧ x.value = m.value ∧ x.tries < m.tries
def okAll (f : Int → Option Msg) : List Msg → Prop
 | [] => True
 | m :: l => okS f m ∧ okAll (putS f m) l
theorem putL_app (f : Int → Option Msg) (a b : List Msg) : putL f (a ++ b) = putL (putL f a) b := List.foldl_append
theorem okAll_app {a b : List Msg} : ∀ {f : Int → Option Msg}, okAll f a → okAll (putL f a) b → okAll f (a ++ b) := by
 induction a with
 | nil => exact fun _ h => h
 | cons m a ih => exact fun h1 h2 => ⟨h1.1, ih h1.2 h2⟩
theorem putL_not {l : List Msg} : ∀ {f : Int → Option Msg} {k : Int}, (∀ m ∈ l, m.key ≠ k) → putL f l k = f k := by
 induction l with
 | nil => exact fun _ => rfl
 | cons m l ih =>
  intro f k h
  show putL (putS f m) l k = f k
  rw [ih (fun x hx => h x (by simp [hx])), putS, if_neg (fun e => h m (by simp) e.symm)]
theorem putL_in {l : List Msg} : ∀ {f : Int → Option Msg} {m : Msg}, l.Pairwise (fun a b => a.key ≠ b.key) → m ∈ l → putL f l m.key = some m := by
 induction l with
 | nil => exact fun _ h => absurd h (by simp)
 | cons x l ih =>
  intro f m hp hm
  rw [List.pairwise_cons] at hp
  show putL (putS f x) l m.key = some m
  rcases List.mem_cons.1 hm with rfl | hm
  ·rw [putL_not (fun y hy => fun e => hp.1 y hy e.symm), putS, if_pos rfl]
  ·exact ih hp.2 hm
theorem okAll_of {l : List Msg} : ∀ {f : Int → Option Msg}, l.Pairwise (fun a b => a.key ≠ b.key) → (∀ m ∈ l, okS f m) → okAll f l := by
 induction l with
 | nil => exact fun _ _ => trivial
 | cons x l ih =>
  intro f hp h
  rw [List.pairwise_cons] at hp
  refine ⟨h x (by simp), ih hp.2 fun m hm => ?_⟩
  intro y hy
  rw [putS, if_neg (fun e => hp.1 m hm e.symm)] at hy
  exact h m (by simp [hm]) y hy
structure Seen (f : Int → Option Msg) (s : Sag) : Prop where
 keys : KeysOK s
 old : ∀ k m, f k = some m → k < s.key
 has : ∀ m ∈ s.O, ∃ x, f m.key = some x ∧ x.kind = m.kind ∧ x.rma = m.rma ∧ x.value = m.value ∧ x.tries ≤ m.tries
theorem next_keys {n : Int} {nw : List Msg} (h : ∀ i, (hi : i < nw.length) → nw[i].key = n + i) : nw.Pairwise (fun a b => a.key ≠ b.key) ∧ ∀ m ∈ nw, n ≤ m.key ∧ m.key < n + nw.length := by
 refine ⟨?_, fun m hm => ?_⟩
 ·rw [List.pairwise_iff_getElem]
  intro i j hi hj hij
  rw [h i hi, h j hj]
  omega
 ·obtain ⟨i, hi, rfl⟩ := l_af hm
  rw [h i hi]
  omega
section
variable {w w' : Wk} {U : List Unt} {D : Cfg} {s : Sag} {f : Int → Option Msg} {c : Cmd}
theorem seen_grow {nw : List Msg} (h : Seen f s) (hn : ∀ i, (hi : i < nw.length) → nw[i].key = s.key + i) : okAll f nw ∧ (∀ k m, putL f nw k = some m → k < s.key + nw.length) ∧
  ∀ m ∈ s.O ++ nw, ∃ x, putL f nw m.key = some x ∧ x.kind = m.kind ∧ x.rma = m.rma ∧ x.value = m.value ∧ x.tries ≤ m.tries := by
 obtain ⟨hp, hk⟩ := next_keys hn
 refine ⟨okAll_of hp fun m hm x hx => ?_, fun k m hm => ?_, fun m hm => ?_⟩
 ·have := h.old _ _ hx
  have := (hk m hm).1
  omega
 ·by_cases hc : ∃ x ∈ nw, x.key = k
  ·obtain ⟨x, hx, rfl⟩ := hc
   exact (hk x hx).2
  ·rw [putL_not (fun x hx e => hc ⟨x, hx, e⟩)] at hm
   have := h.old _ _ hm
   omega
 ·rcases List.mem_append.1 hm with h1 | h1
  ·rw [putL_not (fun x hx e => by have := (hk x hx).1; have := h.keys.1 m h1; omega)]
   exact h.has m h1
  ·exact ⟨m, putL_in hp h1, rfl, rfl, rfl, Int.le_refl _⟩
theorem seen_step (h : Seen f s) (g : Grow ⟨s, []⟩ w') : okAll f w'.sd ∧ Seen (putL f w'.sd) w'.s := by
 have hkeys := grow_keys g h.keys
 obtain ⟨nw, g1, g2, g3, g4⟩ := g
 rw [l_k] at g1
 obtain ⟨a, b, c⟩ := seen_grow h g3
 rw [g1]
 refine ⟨a, hkeys, fun k m hm => ?_, fun m hm => c m (g4.subset hm)⟩
 have := b k m hm
 simp only at g2
 omega
theorem left_keys (now : Int) : ∀ l : List Msg, ((leftOf now l).map Msg.key).Sublist (l.map Msg.key)
 | [] => List.Sublist.refl _
 | x :: l => by
  have ih := left_keys now l
  simp only [leftOf, List.flatMap_cons, l_al, List.map_cons] at ih ⊢
  unfold left1
  split
  ·simp only [List.map_cons, List.map_nil, l_j, l_k]
   exact ih.cons_cons _
  ·split
   ·simp only [List.map_nil, l_k]
    exact ih.cons _
   ·simp only [List.map_cons, List.map_nil, l_j, l_k, Msg.bump]
    exact ih.cons_cons _
theorem said_keys (now : Int) : ∀ l : List Msg, ((saidOf now l).map Msg.key).Sublist (l.map Msg.key)
 | [] => List.Sublist.refl _
 | x :: l => by
  have ih := said_keys now l
  simp only [saidOf, List.flatMap_cons, l_al, List.map_cons] at ih ⊢
  unfold said1
  split
  ·simp only [List.map_nil, l_k]
   exact ih.cons _
  ·split
   ·simp only [List.map_nil, l_k]
    exact ih.cons _
   ·simp only [List.map_cons, List.map_nil, l_j, l_k, Msg.bump]
    exact ih.cons_cons _
theorem keys_sub {a b : List Msg} (hs : (a.map Msg.key).Sublist (b.map Msg.key)) (hp : b.Pairwise (fun a b => a.key ≠ b.key)) : a.Pairwise (fun a b => a.key ≠ b.key) := by
 have h1 : (b.map Msg.key).Pairwise (· ≠ ·) := List.pairwise_map.2 hp
 exact List.pairwise_map.1 (h1.sublist hs)
theorem said_mem {now : Int} {l : List Msg} {m : Msg} (h : m ∈ saidOf now l) : ∃ x ∈ l, ¬ x.due > now ∧ m = x.bump now := by
 unfold saidOf at h
 obtain ⟨x, hx, hm⟩ := List.mem_flatMap.1 h
 unfold said1 at hm
 split at hm
 ·simp at hm
 ·split at hm
  ·simp at hm
  ·exact ⟨x, hx, by assumption, by simpa using hm⟩
theorem left_mem {now : Int} {l : List Msg} {m : Msg} (h : m ∈ leftOf now l) : (m ∈ l ∧ m.due > now) ∨ m ∈ saidOf now l := by
 unfold leftOf at h
 obtain ⟨x, hx, hm⟩ := List.mem_flatMap.1 h
 unfold left1 at hm
 split at hm
 ·rw [l_aa] at hm; rw [hm]; exact .inl ⟨hx, by assumption⟩
 ·split at hm
  ·simp at hm
  ·right
   unfold saidOf
   refine List.mem_flatMap.2 ⟨x, hx, ?_⟩
   unfold said1
   rw [if_neg (by assumption), if_neg (by assumption)]
   exact hm
theorem seen_tick {ss : List Sup} {days : Int} {x : Wk × List Msg} (h : Seen f s) (ht : tickP ss U ⟨s, []⟩ days = .ok x) : okAll f (x.1.sd ++ x.2) ∧ Seen (putL f (x.1.sd ++ x.2)) x.1.s := by
 unfold tickP at ht
 split at ht
 ·cases ht
 split at ht
 ·cases ht
 obtain ⟨w1, h1, ht⟩ := bind_ok ht
 obtain ⟨w3, h3, rfl⟩ := map_ok ht
 have g0 := grow_fold (fun h => grow_due h) h1
 have g1 : Grow ⟨s, []⟩ w1 := Grow.trans (Grow.same (w := ⟨s, []⟩) rfl rfl (List.Sublist.refl _)) g0
 clear g0
 have g3 := grow_fold (fun h => grow_end h) h3
 simp only at g3 h3 ⊢
 generalize s.now + days = now at *
 obtain ⟨o1, s1⟩ := seen_step h g1
 obtain ⟨n3, a1, a2, a3, a4⟩ := g3
 simp only at a1 a2 a3 a4
 have hO1 := s1.keys
 obtain ⟨b1, b2, b3⟩ := seen_grow s1 a3
 obtain ⟨p3, k3⟩ := next_keys a3
 have hsp := keys_sub (said_keys now w1.s.O) hO1.2
 rw [a1]
 have hok : okAll (putL (putL f w1.sd) n3) (saidOf now w1.s.O) := okAll_of hsp fun m hm y hy => by
  obtain ⟨z, hz, _, rfl⟩ := said_mem hm
  obtain ⟨y', hy', e1, e2, e3, e4⟩ := b3 z (List.mem_append_left _ hz)
  have : y = y' := by
   have hy : putL (putL f w1.sd) n3 z.key = some y := hy
   rw [hy'] at hy
   cases hy
   rfl
  subst this
  exact ⟨e1, e2, e3, by show _ < z.tries + 1; omega⟩
 refine ⟨okAll_app (okAll_app o1 b1) (by rw [putL_app]; exact hok), ?_⟩
 rw [putL_app, putL_app]
 have hleft : KeysOK { w1.s with O := leftOf now w1.s.O } := by
  refine ⟨fun m hm => ?_, keys_sub (left_keys now _) hO1.2⟩
  have : m.key ∈ (leftOf now w1.s.O).map Msg.key := l_ai hm
  obtain ⟨z, hz, e⟩ := List.mem_map.1 ((left_keys now _).subset this)
  rw [← e]
  exact hO1.1 z hz
 have hsk : ∀ m ∈ saidOf now w1.s.O, m.key < w1.s.key := fun m hm => by
  obtain ⟨z, hz, _, rfl⟩ := said_mem hm
  exact hO1.1 z hz
 refine ⟨grow_keys (grow_fold (fun h => grow_end h) h3) hleft, fun k m hm => ?_, fun m hm => ?_⟩
 ·by_cases hc : ∃ x ∈ saidOf now w1.s.O, x.key = k
  ·obtain ⟨x, hx, rfl⟩ := hc
   have := hsk x hx
   omega
  ·rw [putL_not (fun x hx e => hc ⟨x, hx, e⟩)] at hm
   have := b2 _ _ hm
   omega
 ·rcases List.mem_append.1 (a4.subset hm) with h5 | h5
  ·rcases left_mem h5 with ⟨h6, h7⟩ | h6
   ·rw [putL_not (fun x hx e => ?_)]
    ·exact b3 m (List.mem_append_left _ h6)
    ·obtain ⟨z, hz, hd, rfl⟩ := said_mem hx
     have : z = m := by
      have hpw := hO1.2
      rw [List.pairwise_iff_getElem] at hpw
      obtain ⟨i, hi, rfl⟩ := l_af hz
      obtain ⟨j, hj, rfl⟩ := l_af h6
      rcases Nat.lt_trichotomy i j with h | h | h
      ·exact absurd e (hpw i j hi hj h)
      ·subst h; rfl
      ·exact absurd e.symm (hpw j i hj hi h)
     rw [this] at hd
     exact hd h7
   ·exact ⟨m, putL_in hsp h6, rfl, rfl, rfl, Int.le_refl _⟩
  ·rw [putL_not (fun x hx e => by have := hsk x hx; have := (k3 m h5).1; omega)]
   exact b3 m (List.mem_append_right _ h5)
theorem take_seen (h : Seen f s) : okAll f (takeP D U s c).2.1 ∧ Seen (putL f (takeP D U s c).2.1) (takeP D U s c).2.2.2 := by
 unfold takeP
 split
 ·exact ⟨trivial, h⟩
 ·split
  ·exact ⟨trivial, h⟩
  ·rename_i x hx
   simp only
   have hg : (c.kind = 7 → okAll f (x.2.2.sd ++ x.2.1) ∧ Seen (putL f (x.2.2.sd ++ x.2.1)) x.2.2.s) ∧ (c.kind ≠ 7 → x.2.1 = [] ∧ Grow ⟨s, []⟩ x.2.2) := by
    unfold doP at hx
    split at hx
    ·obtain ⟨z, hz, rfl⟩ := map_ok hx; exact ⟨fun e => by omega, fun _ => ⟨rfl, grow_request hz⟩⟩
    split at hx
    ·obtain ⟨z, hz, rfl⟩ := map_ok hx; exact ⟨fun e => by omega, fun _ => ⟨rfl, grow_end hz⟩⟩
    split at hx
    ·obtain ⟨z, hz, rfl⟩ := map_ok hx; exact ⟨fun e => by omega, fun _ => ⟨rfl, grow_end hz⟩⟩
    split at hx
    ·obtain ⟨z, hz, rfl⟩ := map_ok hx; exact ⟨fun e => by omega, fun _ => ⟨rfl, grow_pick hz⟩⟩
    split at hx
    ·obtain ⟨z, hz, rfl⟩ := map_ok hx; exact ⟨fun e => by omega, fun _ => ⟨rfl, grow_receive hz⟩⟩
    split at hx
    ·obtain ⟨z, hz, rfl⟩ := map_ok hx; exact ⟨fun e => by omega, fun _ => ⟨rfl, grow_grade hz⟩⟩
    split at hx
    ·obtain ⟨z, hz, rfl⟩ := map_ok hx; exact ⟨fun _ => seen_tick h hz, fun e => absurd (by assumption) e⟩
    ·obtain ⟨z, hz, rfl⟩ := map_ok hx
     obtain ⟨j, hj, _, g⟩ := grow_reply hz
     have hsub : (s.O.take j ++ s.O.drop (j + 1)).Sublist s.O := by
      rw [← List.eraseIdx_eq_take_drop_succ]
      exact List.eraseIdx_sublist ..
     exact ⟨fun e => absurd e (by assumption), fun _ => ⟨rfl, Grow.trans (w1 := ⟨{ s with O := s.O.take j ++ s.O.drop (j + 1) }, []⟩) (.same rfl rfl hsub) g⟩⟩
   by_cases hk : c.kind = 7
   ·exact hg.1 hk
   ·obtain ⟨e, g⟩ := hg.2 hk
    rw [e, l_am]
    exact seen_step h g
def NZ {α : Type} (x : Except Int α) : Prop := ∀ e, x = .error e → e ≠ 0
theorem NZ.ok {α : Type} {y : α} : NZ (.ok y : Except Int α) := fun e h => by cases h
theorem NZ.err {α : Type} {e : Int} (h : e ≠ 0) : NZ (.error e : Except Int α) := fun e' h' => by cases h'; exact h
theorem NZ.map {α β : Type} {x : Except Int α} {g : α → β} (h : NZ x) : NZ (x.map g) := fun e he => by
 cases x with
 | error e' => cases he; exact h _ rfl
 | ok y => cases he
theorem nz_end (w : Wk) (n b : Int) : NZ (endP w n b) := by
 unfold endP
 split
 ·exact .err (by decide)
 ·split
  ·exact .err (by decide)
  ·exact .ok
theorem nz_step (w : Wk) (n b : Int) : NZ (stepP w n b) := by
 unfold stepP
 split
 ·exact .err (by decide)
 ·split
  ·exact .err (by decide)
  ·exact .ok
theorem nz_post (w : Wk) (a b n : Int) : NZ (wpost w a b n) := by
 unfold wpost
 refine NZ.map ?_
 unfold postP
 split
 ·exact .err (by decide)
 ·split
  ·exact .ok
  ·exact .err (by decide)
theorem nz_pay (w : Wk) (i : Nat) (n : Int) : NZ (payP w i n) := by
 unfold payP
 split
 ·exact .ok
 ·split
  ·exact nz_post _ _ _ _
  ·exact .ok
theorem nz_reply (ss : List Sup) (w : Wk) (key : Int) (yes : Bool) : NZ (replyP ss w key yes) := by
 unfold replyP
 split
 ·exact .err (by decide)
 ·simp only
  split
  ·exact .err (by decide)
  ·split
   ·exact nz_end _ _ _
   ·refine NZ.map ?_
    split
    ·exact nz_step _ _ _
    ·split
     ·unfold paidP
      split
      ·exact nz_post _ _ _ _
      ·exact nz_post _ _ _ _
     ·split
      ·unfold shippedP
       simp only
       split
       ·split
        ·exact nz_post _ _ _ _
        ·exact .err (by assumption)
       ·exact nz_pay _ _ _
      ·split
       ·exact .ok
       ·exact .err (by assumption)
theorem reply_once (h : KeysOK s) (hk : c.kind = 8) (ho : (takeP D U s c).2.2.1 = 0) : (takeP D U (takeP D U s c).2.2.2 c).2.2.1 = 16 := by
 unfold takeP at ho ⊢
 by_cases hf : dcd c.formed = false
 ·rw [if_pos hf] at ho; simp at ho
 rw [if_neg hf] at ho
 simp only [if_neg hf]
 have hdo : ∀ s : Sag, doP D U ⟨s, []⟩ c = (replyP D.ss ⟨s, []⟩ c.key c.yes).map fun x => (0, [], x) := fun s => by
  unfold doP
  rw [if_neg (by omega), if_neg (by omega), if_neg (by omega), if_neg (by omega), if_neg (by omega), if_neg (by omega), if_neg (by omega)]
 rw [hdo] at ho ⊢
 cases hr : replyP D.ss ⟨s, []⟩ c.key c.yes with
 | error e =>
  exfalso
  rw [hr] at ho
  exact nz_reply _ _ _ _ e hr ho
 | ok x =>
  obtain ⟨j, hj, hjk, g⟩ := grow_reply hr
  have hno : ∀ m ∈ x.s.O, m.key ≠ c.key := fun m hm e => by
   obtain ⟨nw, _, g2, g3, g4⟩ := g
   simp only at hj hjk g2 g3 g4
   rcases List.mem_append.1 (g4.subset hm) with h1 | h1
   ·have hpw := h.2
    rw [List.pairwise_iff_getElem] at hpw
    rcases List.mem_append.1 h1 with h1 | h1
    ·obtain ⟨i, hi, rfl⟩ := l_af h1
     rw [l_ad] at hi
     rw [List.getElem_take] at e
     exact hpw i j (by omega) hj (by omega) (by rw [e, hjk])
    ·obtain ⟨i, hi, rfl⟩ := l_af h1
     rw [List.length_drop] at hi
     rw [List.getElem_drop] at e
     exact hpw j (j + 1 + i) hj (by omega) (by omega) (by rw [e, hjk])
   ·have := (next_keys g3).2 m h1
    have := h.1 _ (l_v hj)
    omega
  have : replyP D.ss ⟨x.s, []⟩ c.key c.yes = .error 16 := by
   unfold replyP
   rw [List.findIdx?_eq_none_iff.2 (fun m hm => by simp [hno m hm])]
  simp only [hdo, hr, Except.map, this]
end
end
section
def lookE : List MapEntry → Int → Option Value
 | [], _ => none
 | e :: es, k => match e.key with
  | .int _ a => if a = k then some e.val else lookE es k
  | _ => lookE es k
def IntKeys (es : List MapEntry) : Prop := ∀ e ∈ es, ∃ a, e.key = .int .i64 a
def mapA (b : Nat) (f : Int → Option Value) : HP where
 P h B := B = [b] ∧ ∃ es cl, h[b]? = some (.map es cl) ∧ IntKeys es.toList ∧ ∀ k, lookE es.toList k = f k
 loc := fun ⟨e, es, cl, hb, hr⟩ hk => ⟨e, es, cl, by subst e; rw [hk b (by simp)]; exact hb, hr⟩
 lt := fun ⟨e, es, cl, hb, _⟩ b' hm => by subst e; simp at hm; subst hm; exact (Array.getElem?_eq_some_iff.1 hb).1
theorem findNow_spec (k : Int) : ∀ (es : List MapEntry), IntKeys es → ∀ i, (Instr.findNow (.int .i64) (.int .i64 k) es i = some none ∧ lookE es k = none) ∨
  ∃ j e, es[j]? = some e ∧ Instr.findNow (.int .i64) (.int .i64 k) es i = some (some (i + j, e.val)) ∧ lookE es k = some e.val ∧ e.key = .int .i64 k ∧
   ∀ w q, lookE (es.modify j fun e => { e with key := .int .i64 k, val := w }) q = if q = k then some w else lookE es q
 | [], _, i => .inl ⟨rfl, rfl⟩
 | e :: es, h, i => by
  obtain ⟨a, ha⟩ := h e (by simp)
  by_cases hk : a = k
  ·subst hk
   refine .inr ⟨0, e, rfl, ?_, ?_, ha, fun w q => ?_⟩
   ·simp [Instr.findNow, ha, Instr.sameNow]
   ·simp [lookE, ha]
   ·simp only [List.modify_zero_cons, lookE, ha]
    by_cases hq : a = q
    ·subst hq; simp
    ·rw [if_neg hq, if_neg (fun h => hq h.symm), if_neg hq]
  ·have hne : (k == a) = false := by simp; exact fun h => hk h.symm
   have hf : ∀ i, Instr.findNow (.int .i64) (.int .i64 k) (e :: es) i = Instr.findNow (.int .i64) (.int .i64 k) es (i + 1) := fun i => by
    simp [Instr.findNow, ha, Instr.sameNow, hne]
   rcases findNow_spec k es (fun x hx => h x (by simp [hx])) (i + 1) with ⟨h1, h2⟩ | ⟨j, x, h1, h2, h3, h4, h5⟩
   ·exact .inl ⟨by rw [hf]; exact h1, by simp only [lookE, ha, if_neg hk]; exact h2⟩
   ·refine .inr ⟨j + 1, x, by simpa using h1, by rw [hf, h2]; congr 2; simp; omega, by simp only [lookE, ha, if_neg hk]; exact h3, h4, fun w q => ?_⟩
    simp only [List.modify_succ_cons, lookE, ha, h5]
    by_cases hq : a = q
    ·subst hq; simp [hk]
    ·simp [hq]
theorem check_int {P : Program} {kt : TypeId} (hk : P.underlying kt = some (.int .i64)) (b : Bool) (n : Nat) (k : Int) (w : World) : (Instr.checkKey b (n + 1) kt (.int .i64 k)).run P w = .ok () w := by
 simp only [Instr.checkKey, Sem.run_bind, und_run hk, Result.andThen_ok, Sem.run_pure]
theorem find_run {P : Program} {kt : TypeId} (hk : P.underlying kt = some (.int .i64)) {k : Int} {es : List MapEntry} {r : Option (Nat × Value)} (hr : Instr.findNow (.int .i64) (.int .i64 k) es 0 = some r) (w : World) : (Instr.findKey kt (.int .i64 k) es).run P w = .ok r w := by
 simp only [Instr.findKey, Sem.run_bind, und_run hk, Result.andThen_ok, hr, Sem.run_pure]
theorem zero_run {P : Program} {t : TypeId} {z : Value} (h : (P.info? t).bind (·.zero) = some z) (w : World) : (zeroValue t).run P w = .ok z w := by
 cases hi : P.info? t with
 | none => simp [hi] at h
 | some i =>
  have hv : i.zero = some z := by simpa [hi] using h
  simp [zeroValue, typeInfo, hi, hv]
def opVal (ρ : Env) : Operand → Value
 | .tmp t => ρ t
 | .const v => v
 | .global g => .pointer (some ⟨g, 0, none⟩)
 | .func f => .func (.func f) #[] #[]
theorem getMap_run {P : Program} {w : World} {r : Nat} {es : Array MapEntry} {cl : Nat} (h : w.heap[r]? = some (.map es cl)) : (getObj r).run P w = .ok (.map es cl) w := by simp [getObj, Sem.run, h]
theorem setMap_run {P : Program} {w : World} {r : Nat} {es : Array MapEntry} {cl : Nat} (o' : Obj) (h : w.heap[r]? = some (.map es cl)) : (setObj r o').run P w = .ok () { w with heap := w.heap.setIfInBounds r o' } := by
 simp [setObj, Sem.run, h]
section
variable {P : Program} {o : Oper} {ρ : Env} {h0 h : Heap} {l : List HP} {K : Value → Heap → Prop} {s1 : Tag ρ} {s2 : Tag h} {s3 : Tag K}
theorem any_mkmap {t : TypeId} (ho : o.op = .makeMap t none) (S : St h0 h l) (hk : ∀ b h', St h0 h' (mapA b (fun _ => none) :: l) → K (.map (some b)) h') : anyT P o ρ h K s1 s2 s3 := by
 intro w a hw _
 refine ⟨.map (some w.heap.size), { w with heap := w.heap.push (.map #[] 0) }, .inl ?_, ⟨rfl, rfl, rfl⟩, ?_⟩
 ·simp [execOp, ho, Instr.makeMap]
 ·subst hw
  refine hk _ _ (S.new ((Fr.refl _ _).push _) (C := [w.heap.size]) ⟨rfl, #[], 0, by simp, fun e he => by simp at he, fun k => rfl⟩ (by simp))
theorem any_put {t kt et : TypeId} {m n b : Nat} {k : Int} {f : Int → Option Value} {v : Value} {x : Operand} (ho : o.op = .mapUpdate t (.tmp m) (.tmp n) x) (ht : P.underlying t = some (.map kt et)) (hkt : P.underlying kt = some (.int .i64))
  (hm : ρ m = .map (some b)) (hn : ρ n = .int .i64 k) (hv : opVal ρ x = v)
  (S : St h0 h (mapA b f :: l)) (hk : ∀ h', St h0 h' (mapA b (fun q => if q = k then some v else f q) :: l) → K undef h') : anyT P o ρ h K s1 s2 s3 := by
 intro w a hw hops
 have hx : a.eval (.tmp m) = .map (some b) := by
  rw [← hm]
  exact hops (.tmp m) (by rw [ho]; simp [Op.operands])
 have hy : a.eval (.tmp n) = .int .i64 k := by
  rw [← hn]
  exact hops (.tmp n) (by rw [ho]; simp [Op.operands])
 have hz : a.eval x = v := by
  have hh := hops x (by rw [ho]; simp [Op.operands])
  rw [← hv, hh]
  cases x <;> rfl
 obtain ⟨B, ⟨hB, es, cl, hb, hi, hl⟩, _, hup⟩ := S.hd
 rw [← hw] at hb
 have hlt : b < w.heap.size := (Array.getElem?_eq_some_iff.1 hb).1
 have hc : (Instr.checkKey false 10000 kt (.int .i64 k)).run P w = .ok () w := check_int hkt _ 9999 k w
 have hgo : ∀ o', (∃ es cl, o' = Obj.map es cl ∧ IntKeys es.toList ∧ ∀ q, lookE es.toList q = if q = k then some v else f q) → K undef (w.heap.setIfInBounds b o') := fun o' ⟨es', cl', ho', hi', hl'⟩ => by
  refine hk _ (hup _ (mapA b _) [b] ?_ ⟨rfl, es', cl', ?_, hi', hl'⟩ (fun b' hm => .inl (by rw [hB]; exact hm)))
  ·subst hw hB
   exact (Fr.refl _ _).set (.inl (by simp)) _
  ·rw [ho']
   simp [hlt]
 rcases findNow_spec k es.toList hi 0 with ⟨h1, h2⟩ | ⟨j, e, he, h1, h2, h3, h4⟩
 ·refine ⟨undef, { w with heap := w.heap.setIfInBounds b (.map (es.push { key := .int .i64 k, val := v, born := cl }) (cl + 1)) }, .inr ⟨?_, rfl⟩, ⟨rfl, rfl, rfl⟩, hgo _ ⟨_, _, rfl, ?_, ?_⟩⟩
  ·simp [execOp, ho, Instr.mapUpdate, und_run ht, hx, hy, hz, getMap_run hb, hc, find_run hkt h1, setMap_run _ hb]
  ·intro y hy'
   rw [Array.toList_push] at hy'
   rcases List.mem_append.1 hy' with hy' | hy'
   ·exact hi y hy'
   ·simp at hy'; exact ⟨k, by rw [hy']⟩
  ·intro q
   have happ : ∀ (L : List MapEntry), IntKeys L → lookE L k = none → lookE (L ++ [{ key := .int .i64 k, val := v, born := cl }]) q = if q = k then some v else lookE L q := by
    intro L
    induction L with
    | nil =>
     intro _ _
     simp only [l_k, lookE]
     by_cases hq : k = q
     ·subst hq; simp
     ·rw [if_neg hq, if_neg (fun h => hq h.symm)]
    | cons y L ih =>
     intro hL hn
     obtain ⟨aa, ha⟩ := hL y (by simp)
     simp only [l_j, lookE, ha] at hn ⊢
     by_cases hq : aa = k
     ·rw [if_pos hq] at hn; cases hn
     ·rw [if_neg hq] at hn
      rw [ih (fun e he => hL e (by simp [he])) hn]
      by_cases hq2 : aa = q
      ·subst hq2; simp [hq]
      ·simp [hq2]
   rw [Array.toList_push, happ _ hi h2, hl]
 ·have hget : es[j]? = some e := by rw [← he, Array.getElem?_toList]
  refine ⟨undef, { w with heap := w.heap.setIfInBounds b (.map (es.modify j fun e => { e with key := .int .i64 k, val := v }) cl) }, .inr ⟨?_, rfl⟩, ⟨rfl, rfl, rfl⟩, hgo _ ⟨_, _, rfl, ?_, ?_⟩⟩
  ·simp [execOp, ho, Instr.mapUpdate, und_run ht, hx, hy, hz, getMap_run hb, hc, find_run hkt h1, setMap_run _ hb, hget, h3, Instr.keyThatStays, Instr.sameBits]
  ·intro y hy'
   rw [Array.toList_modify] at hy'
   obtain ⟨i, hil, rfl⟩ := l_af hy'
   rw [List.getElem_modify]
   split
   ·exact ⟨k, rfl⟩
   ·exact hi _ (l_v _)
  ·intro q
   rw [Array.toList_modify, h4, hl]
end
end
section
section
variable {P : Program} {o : Oper} {ρ : Env} {h0 h : Heap} {l : List HP} {K : Value → Heap → Prop} {s1 : Tag ρ} {s2 : Tag h} {s3 : Tag K}
theorem any_look2 {t kt et : TypeId} {m n b : Nat} {k : Int} {f : Int → Option Value} {z : Value} (ho : o.op = .lookup t (.tmp m) (.tmp n) true) (ht : P.underlying t = some (.map kt et)) (hkt : P.underlying kt = some (.int .i64)) (hz : ∀ w, (zeroValue et).run P w = .ok z w)
  (hm : ρ m = .map (some b)) (hn : ρ n = .int .i64 k) (S : St h0 h (mapA b f :: l)) (hk : K (.tuple #[(f k).getD z, .bool (f k).isSome]) h) : anyT P o ρ h K s1 s2 s3 := by
 intro w a hw hops
 have hx : a.eval (.tmp m) = .map (some b) := by
  rw [← hm]
  exact hops (.tmp m) (by rw [ho]; simp [Op.operands])
 have hy : a.eval (.tmp n) = .int .i64 k := by
  rw [← hn]
  exact hops (.tmp n) (by rw [ho]; simp [Op.operands])
 obtain ⟨B, ⟨_, es, cl, hb, hi, hl⟩, _⟩ := S.hd
 rw [← hw] at hb
 have hc : (Instr.checkKey es.isEmpty 10000 kt (.int .i64 k)).run P w = .ok () w := check_int hkt _ 9999 k w
 refine ⟨.tuple #[(f k).getD z, .bool (f k).isSome], w, .inl ?_, ⟨rfl, rfl, rfl⟩, by rw [hw]; exact hk⟩
 rcases findNow_spec k es.toList hi 0 with ⟨h1, h2⟩ | ⟨j, e, _, h1, h2, _, _⟩
 ·rw [hl] at h2
  simp [execOp, ho, Instr.lookup, und_run ht, hx, hy, getMap_run hb, hc, find_run hkt h1, hz, h2]
 ·rw [hl] at h2
  simp [execOp, ho, Instr.lookup, und_run ht, hx, hy, getMap_run hb, hc, find_run hkt h1, h2]
end
end
section
set_option maxHeartbeats 16000000
def gS (f : Int → Option Msg) : Int → Option Value := fun k => (f k).map fun m => .agg m.enc.toArray
theorem gS_put {f : Int → Option Msg} {m : Msg} : (fun q => if q = m.key then some (Value.agg m.enc.toArray) else gS f q) = gS (putS f m) := by
 funext q
 unfold gS putS
 split <;> rfl
theorem okAll_at {l : List Msg} : ∀ {f : Int → Option Msg}, okAll f l → ∀ {i : Nat} (hi : i < l.length), okS (putL f (l.take i)) l[i] := by
 induction l with
 | nil => exact fun _ i hi => absurd hi (by simp)
 | cons m l ih =>
  intro f h i hi
  cases i with
  | zero => exact h.1
  | succ i => exact ih h.2 (by simpa using hi)
theorem putL_take {l : List Msg} {f : Int → Option Msg} {i : Nat} (hi : i < l.length) : putS (putL f (l.take i)) l[i] = putL f (l.take (i + 1)) := by
 rw [l_t hi, putL_app]
 rfl
theorem seen_new {C : Cfg} : Seen (fun _ => none) (sagNew C) := ⟨⟨fun m hm => absurd hm l_d, List.Pairwise.nil⟩, fun k m h => (nomatch h), fun m hm => absurd hm l_d⟩
theorem msg_rd {h : Heap} {b o : Nat} {m : Msg} (q : rdN h b o 6 = some m.enc) : rdN h b o 6 = some m.enc ∧ rd1 h (.pointer (some ⟨b, o, none⟩)) = some (.int .i64 m.key) ∧ rd1 h (.pointer (some ⟨b, o + 1, none⟩)) = some (.int .i64 m.kind) ∧ rd1 h (.pointer (some ⟨b, o + 2, none⟩)) = some (.int .i64 m.rma) ∧ rd1 h (.pointer (some ⟨b, o + 3, none⟩)) = some (.int .i64 m.value) ∧ rd1 h (.pointer (some ⟨b, o + 4, none⟩)) = some (.int .i64 m.tries) :=
 ⟨q, rP0 q (by omega), rP q 1 (by omega), rP q 2 (by omega), rP q 3 (by omega), rP q 4 (by omega)⟩
theorem St.gen {h0 h : Heap} {l : List HP} {P : Prop} (S : St h0 h l) (k : ∀ L, L = l → St h0 h L → P) : P := k l rfl S
theorem SagaKeys_ok (C : Cfg) (A : Option Addr) (c : Nat) (xs : List CmdV) (h0 : Heap) (hC : C.ok h0) (ha : Arr CmdV.enc 12 h0 A xs) (hl : xs.length ≤ c) (hcm : c ≤ maxLen) (hx : ∀ x ∈ xs, x.ok h0) :
  CallsH Tryz.prog 3 [.agg C.enc.toArray, .slice A xs.length c] h0 fun v h' => v = .bool true ∧ Fr h0 h' [] := by
 have hm : maxLen = 9223372036854775807 := rfl
 obtain ⟨r, w⟩ := hC
 have S := St.nil h0
 have r' : ∀ {l : List HP} (h' : Heap), St h0 h' l → C.rd h' := fun h' S => r.fr S.fr
 refine EN i3.eq_1 fun K hK => Wa ?_
 (revert S; (try clear F); refine AL fun g h S F => ?_)
 refine Wa ?_
 refine cF S (awake16_ok _) fun h S => ?_
 ((try clear F); have F := S.fx)
 refine Wb F ?_
 refine cF S (FewS_ok C xs 80 (by omega) (by omega) (r' _ S) w (ha.fr S.fr (by simp))) fun h S => ?_
 by_cases hf : fewS C xs 80
 case neg =>
  rw [dF hf]
  refine Wa ?_
  refine cF S (awake16_ok _) fun h S => ?_
  refine Wa ?_
  exact hK _ _ ⟨rfl, S.fr⟩
 rw [dT hf]
 ((try clear F); have F := S.fx)
 refine Wb F ?_
 obtain ⟨hxl, hxu, f1, f2, f3, f4⟩ := hf
 refine cI (NewS_ok C (fun h' S => r' h' S) w (by omega) (by omega) (by omega) (fun o ho => by have := f4 o ho; omega) S) ?_
 clear S F
 rintro _ h (⟨_, rfl, S⟩ | ⟨hok, p, D, u, rfl, hw, hp, S⟩)
 ·refine Wa ?_
  exact hK _ _ ⟨rfl, S.fr⟩
 obtain ⟨_, Au, cu, rfl, _⟩ := stcA_rd S.p1
 have hD := stc_new hp hok
 obtain ⟨U, hU⟩ : ∃ U, U = unitsAll C := ⟨_, rfl⟩
 have W0 : (sagNew C).wf (unitsAll C) 0 := new_wf
 have K0 := seen_new (C := C)
 rw [← hU] at S hD W0
 generalize sagNew C = s at *
 refine Wa ?_
 refine any_mkmap rfl S ?_
 clear S
 intro mb h S
 rw [show (fun _ => none : Int → Option Value) = gS (fun _ => none) from rfl] at S
 refine Wa ?_
 refine lI (fun ρ h' => ρ 1 = .slice A xs.length c ∧ ρ 5 = .pointer (some ⟨p, 0, none⟩) ∧ ρ 7 = .map (some mb) ∧ ρ 38 = .int .i64 xs.length ∧ ∃ i : Nat, ρ 39 = .int .i64 i ∧ i ≤ xs.length ∧ ∃ (f : Int → Option Msg) (s : Sag), Seen f s ∧ s.wf U (i * 201) ∧
  St h0 h' (mapA mb (gS f) :: sagaA p D (.slice Au U.length cu) s :: stcA D (.slice Au U.length cu) U :: [cellA g C.enc 26])) (fun ρ _ => xs.length - (iv (ρ 39)).toNat) ?_ ?_
 ·refine Wa ?_
  exact ⟨0, rfl, by omega, _, _, K0, by simpa using W0, S⟩
 clear S K0 W0 s
 rintro ρ h J hJ ⟨e1, e5, e7, e38, i, e39, hi, f, s, Kf, W, S⟩
 refine Wc e38 e39 ?_
 refine cD (fun hlt => ?_) (fun hlt => ?_)
 rotate_left
 ·refine Wa ?_
  exact hK _ _ ⟨rfl, S.fr⟩
 have hil : i < xs.length := by omega
 have hxi := hx _ (l_v hil)
 have hui := hxu _ (l_v hil)
 obtain ⟨b, o, rfl, q⟩ := ha.at hil
 generalize hxe : xs[i] = x at *
 have q' : ∀ {l : List HP} {h' : Heap}, St h0 h' l → rdN h' b (o + i * 12) 12 = some x.enc := fun S => by rw [← hxe]; exact ((ha.fr S.fr (by simp)).at (i := i) hil).elim fun b' h => h.elim fun o' h => by cases h.1; exact h.2
 have qS := q' S
 refine We e1 e5 e39 qS ?_
 refine cI (Theirs15_ok x (fun h' S => hxi.us.fr S.fr (by simp)) (by omega) S) ?_
 clear S qS
 rintro _ h ⟨y, rfl, hy, S⟩
 have hyi : y.c.i64 := by rw [hy]; exact hxi.i64
 refine Wa ?_
 refine cI (Take_ok y (Au := Au) (cu := cu) (U := U) (l := ownA zEnc 1 3 (.slice y.A y.c.us.length y.n) y.c.us :: mapA mb (gS f) :: stcA D (.slice Au U.length cu) U :: [cellA g C.enc 26]) (by simp) (fun h' S => S.arr zEl) (by rw [hy]; omega) hyi hD (by (exact PM S) ) W (by omega)) ?_
 clear S
 rintro _ h ⟨sl, rfl, S⟩
 have W1 := take_wf (D := D) (c := y.c) hD.ul W
 obtain ⟨o1, K1⟩ := take_seen (D := D) (U := U) (c := y.c) Kf
 have hon := fun h1 h2 => reply_once (D := D) (U := U) (s := s) (c := y.c) Kf.keys h1 h2
 generalize hY : takeP D U s y.c = Y at *
 obtain ⟨v, sd, er, s'⟩ := Y
 simp only at W1 o1 K1 hon S
 obtain ⟨B, d, rfl⟩ := S.sl
 have hcap := S.cap
 refine Wa ?_
 refine lI (fun ρ h' => ρ 1 = .slice (some ⟨b, o, none⟩) xs.length c ∧ ρ 5 = .pointer (some ⟨p, 0, none⟩) ∧ ρ 7 = .map (some mb) ∧ ρ 8 = .int .i64 i ∧ ρ 10 = .slice B sd.length d ∧ ρ 11 = .int .i64 er ∧ ρ 38 = .int .i64 xs.length ∧ ρ 39 = .int .i64 i ∧ ρ 54 = .int .i64 sd.length ∧ ∃ k : Nat, ρ 55 = .int .i64 k ∧ k ≤ sd.length ∧
  St h0 h' (mapA mb (gS (putL f (sd.take k))) :: ownA Msg.enc 6 44 (.slice B sd.length d) sd :: sagaA p D (.slice Au U.length cu) s' :: stcA D (.slice Au U.length cu) U :: [cellA g C.enc 26])) (fun ρ _ => sd.length - (iv (ρ 55)).toNat) ?_ ?_
 ·refine Wf e1 e5 e7 e38 e39 ?_
  exact ⟨0, rfl, by omega, by rw [l_an, show putL f [] = f from rfl]; exact (by (exact PM S.p2.tl) )⟩
 have o39 := e39
 clear S e1 e5 e7 e38 e39
 rintro ρ h J2 hJ2 ⟨e1, e5, e7, e8, e10, e11, e38, e39, e54, k, e55, hk, S⟩
 refine Wc e54 e55 ?_
 refine cD (fun hlt2 => ?_) (fun hlt2 => ?_)
 ·have hkl : k < sd.length := by omega
  obtain ⟨b1, o2, rfl, q1⟩ := (S.p1.arr enc_len).at hkl
  have hoS := okAll_at o1 hkl
  have hput := putL_take (f := f) hkl
  generalize hme : sd[k] = m at *
  generalize putL f (sd.take k) = F1 at *
  have hq : ∀ {l' : List HP} {h' : Heap}, St h0 h' (ownA Msg.enc 6 44 (.slice (some ⟨b1, o2, none⟩) sd.length d) sd :: l') → _ := fun S => msg_rd (b := b1) (o := o2 + k * 6) (m := m) (by rw [← hme]; obtain ⟨b', o', he, q⟩ := (S.arr enc_len).at hkl; cases he; exact q)
  have m0 := hq S.p1
  have hJ3 : ∀ ρ' h, ρ' 1 = .slice (some ⟨b, o, none⟩) xs.length c → ρ' 5 = .pointer (some ⟨p, 0, none⟩) → ρ' 7 = .map (some mb) → ρ' 8 = .int .i64 i → ρ' 10 = .slice (some ⟨b1, o2, none⟩) sd.length d → ρ' 11 = .int .i64 er → ρ' 38 = .int .i64 xs.length → ρ' 39 = .int .i64 i → ρ' 54 = .int .i64 sd.length → ρ' 55 = .int .i64 (k + 1) →
    St h0 h (mapA mb (fun q => if q = m.key then some (Value.agg m.enc.toArray) else gS F1 q) :: ownA Msg.enc 6 44 (.slice (some ⟨b1, o2, none⟩) sd.length d) sd :: sagaA p D (.slice Au U.length cu) s' :: stcA D (.slice Au U.length cu) U :: [cellA g C.enc 26]) → J2 ρ' h := by
   intro ρ' h d1 d5 d7 d8 d10 d11 d38 d39 d54 d55 S
   rw [gS_put, hput] at S
   refine hJ2 _ _ ⟨d1, d5, d7, d8, d10, d11, d38, d39, d54, k + 1, d55, by omega, S⟩ ?_
   refine Wc d55 e55 ?_
   omega
  refine We e7 e10 e55 m0 ?_
  refine any_look2 (kt := 3) (et := 44) (z := .agg Msg.zero.enc.toArray) rfl (by kernel_rfl) (by kernel_rfl) (zero_run (by kernel_rfl)) rfl rfl S ?_
  cases hfk : F1 m.key with
  | none =>
   rw [show gS F1 m.key = none by rw [gS, hfk]; rfl]
   refine Wa ?_
   (revert S; (try clear F); refine AL fun g1 h S F => ?_)
   refine Wc @Msg.zero.eq_1 @Msg.enc.eq_1 ?_
   (revert S; (try clear F); refine ST fun h S F => ?_)
   have m0 := hq S.p2
   refine Wa ?_
   refine dE ?_
   refine Wa ?_
   refine dE ?_
   refine Wd e7 e10 m0 ?_
   refine any_put (kt := 3) (et := 44) rfl (by kernel_rfl) (by kernel_rfl) rfl rfl rfl S.tl ?_
   clear S F
   intro h S
   refine Wb e55 ?_
   refine hJ3 _ _ ?_ ?_ ?_ ?_ ?_ ?_ ?_ ?_ ?_ ?_ S <;> ((refine Wi e1 e5 e7 e8 e10 e11 e38 (Pc e39 e54) ?_); trivial)
  | some m' =>
   obtain ⟨t1, t2, t3, t4⟩ := hoS m' hfk
   have t5 : ¬ m.tries ≤ m'.tries := by omega
   rw [show gS F1 m.key = some (.agg m'.enc.toArray) by rw [gS, hfk]; rfl]
   refine Wa ?_
   (revert S; (try clear F); refine AL fun g1 h S F => ?_)
   refine Wb @Msg.enc.eq_1 ?_
   (revert S; (try clear F); refine ST fun h S F => ?_)
   have m0 := hq S.p2
   refine Wa ?_
   refine dE ?_
   refine Wh F e10 m0 t1 t2 t3 t5 ?_
   refine dE ?_
   refine Wd e7 e10 m0 ?_
   refine any_put (kt := 3) (et := 44) rfl (by kernel_rfl) (by kernel_rfl) rfl rfl rfl S.tl ?_
   clear S F
   intro h S
   refine Wb e55 ?_
   refine hJ3 _ _ ?_ ?_ ?_ ?_ ?_ ?_ ?_ ?_ ?_ ?_ S <;> ((refine Wi e1 e5 e7 e8 e10 e11 e38 (Pc e39 e54) ?_); trivial)
 obtain rfl : k = sd.length := by omega
 rw [l_aj] at S
 have qS := rP0 (q' S) (by omega)
 simp only [CmdV.enc, l_o] at qS
 have hend : ∀ ρ' h, ρ' 1 = .slice (some ⟨b, o, none⟩) xs.length c → ρ' 5 = .pointer (some ⟨p, 0, none⟩) → ρ' 7 = .map (some mb) → ρ' 38 = .int .i64 xs.length → ρ' 39 = .int .i64 (i + 1) → St h0 h (mapA mb (gS (putL f sd)) :: sagaA p D (.slice Au U.length cu) s' :: stcA D (.slice Au U.length cu) U :: [cellA g C.enc 26]) → J ρ' h := by
  intro ρ' h d1 d5 d7 d38 d39 S
  refine hJ _ _ ?_ ?_
  ·exact ⟨d1, d5, d7, d38, i + 1, d39, by omega, _, _, K1, by rw [show (i + 1) * 201 = i * 201 + 201 by omega]; exact W1, S⟩
  ·refine Wc d39 o39 ?_
   omega
 have hS := S.p1.tl
 by_cases h8 : x.c.kind = 8
 ·by_cases h9 : er = 0
  ·have hg := hon (by rw [hy]; exact h8) h9
   rw [h9] at e11
   refine Wf e1 e8 e11 qS h8 ?_
   refine S.gen fun L hL S => ?_
   have rx : ∀ K t, readT (fun h' => St h0 h' L) (fun h' => bindV (rdN h' b (o + i * 12) 12) fun cs => some (.agg cs.toArray)) K t = K (.agg x.enc.toArray) := fun K t => rI (fun h' S => by rw [q' S]; rfl) h S
   refine dI (fun h' => St h0 h' L) S ?_
   refine We e1 e5 e8 rx ?_
   rw [hL] at S
   refine cI (SagaClone_ok (U := U) (m := i * 201 + 201) S.p2 W1 hD.ul (by omega)) ?_
   clear S
   rintro _ h ⟨p2, rfl, S⟩
   refine ⟨by rw [hL]; exact (by (exact PM S.tl) ), ?_⟩
   refine Wa ?_
   refine cI (Theirs15_ok x (fun h' S => hxi.us.fr S.fr (by simp)) (by omega) S) ?_
   clear S
   rintro _ h ⟨z, rfl, hz, S⟩
   refine Wa ?_
   have hzi : z.c.i64 := by rw [hz]; exact hxi.i64
   refine cI (Take_ok z (Au := Au) (cu := cu) (U := U) (by simp) (fun h' S => S.arr zEl) (by rw [hz]; omega) hzi hD S.p1 W1 (by omega)) ?_
   clear S
   rintro _ h ⟨sl, rfl, S⟩
   rw [hz, ← hy, hg]
   refine Wb e39 ?_
   refine hend _ _ ?_ ?_ ?_ ?_ ?_ (by (exact PM S.tl.tl.tl.p2.tl) ) <;> ((refine We e1 e5 e7 e38 ?_); trivial)
  ·refine Wh e1 e8 e11 qS h8 h9 e39 ?_
   refine hend _ _ ?_ ?_ ?_ ?_ ?_ hS <;> ((refine We e1 e5 e7 e38 ?_); trivial)
 ·refine Wg e1 e8 e11 qS h8 e39 ?_
  refine hend _ _ ?_ ?_ ?_ ?_ ?_ hS <;> ((refine We e1 e5 e7 e38 ?_); trivial)
end
end Go.Proofs.YtcgbhcgfdcfmaaaGreat.MX
