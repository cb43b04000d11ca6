/- Texts in one file: Dk6, Dk7, Dk4, Dk8, Dk9, Lg1. -/
import Derived.Test.YtnjjdpeglkiifaaK16
import Derived.Test.YtnjjdpeglkiifaaK12
import Derived.Test.YtnjjdpeglkiifaaK11
import Derived.WideShapes
import Derived.Test.YtnjjdpeglkiifaaK15

/- The disk: Rename, Restart. -/
namespace Go.Proofs.Ytnjjdpeglkiifaa.MX
open Go Go.Proofs
set_option linter.unusedSimpArgs false
set_option linter.unusedVariables false

theorem draw_any {P : Program} {Q : MExit → Env → Heap → Prop} {ρ : Env} {h : Heap} {l : List MOper} {s : Sch} {t1 : Tag l} {t2 : Tag s} {t3 : Tag Q} {t4 : Tag ρ} {t5 : Tag h} (S : Heap → Prop) (hS : S h) (hw : schT P S l (Q .normal) s ρ h) : drawT P l s Q ρ h t1 t2 t3 t4 t5 :=
  ⟨S, hS, hw⟩
theorem readT_self {h : Heap} {F : Heap → Option Value} {v : Value} (hS : F h = some v) {K : Value → Prop} {t : Tag K} : readT (fun h' => F h' = some v) F K t = K v := by
  apply propext
  constructor
  · rintro ⟨u, h1, h2⟩
    rw [h1 h hS] at hS
    cases hS
    exact h2
  · intro hk
    exact ⟨v, fun _ e => e, hk⟩
theorem chk_any {A B : Prop} (a : A) (b : B) : chkT A B := ⟨a, b⟩
theorem slot_move {h0 h : Heap} {l : List HP} {X : HP} {zs : List Slot} {a b : Nat} (hab : a ≠ b) (ha : a < zs.length) (hb : b < zs.length) (S : St h0 h (X :: (zs.map slotA ++ l))) :
    St h0 h (X :: (((zs.set b zs[a]).set a none).map slotA ++ l)) := by
  have S1 := slot_pick ha S
  have S2 : St h0 h (slotA none :: X :: ((zs.take a ++ zs.drop (a + 1)).map slotA ++ (slotA zs[a] :: l))) := St.emp.2 (S1.perm (by
    refine (List.Perm.swap _ _ _).trans (List.Perm.cons X ?_)
    exact List.perm_middle.symm))
  have S3 := slot_put ha S2
  have hb' : b < (zs.set a none).length := by simpa using hb
  have S4 := (slot_pick hb' S3).tl
  have S5 : St h0 h (slotA zs[a] :: X :: (((zs.set a none).take b ++ (zs.set a none).drop (b + 1)).map slotA ++ l)) := S4.perm (by
    refine List.Perm.trans (List.Perm.cons X List.perm_middle) (List.Perm.swap _ _ _))
  have S6 := slot_put hb' S5
  rwa [List.set_comm _ _ hab] at S6

def renameD (D : Dk) (a b : Int) : Dk × Int :=
  if askE D a ≠ 0 then (D, askE D a)
  else if askE D b ≠ 0 then (D, askE D b)
  else if (fileOf D a).isNone then (D, 7)
  else if a = b ∨ ((fileOf D a).getD ⟨[], 0⟩).safe < ((fileOf D a).getD ⟨[], 0⟩).bs.length then (D, 1)
  else if D.fuse = 0 then ({ D with lost := true }, 6)
  else ({ D with fs := (D.fs.set b.toNat (fileOf D a)).set a.toNat none, fuse := burnF D.fuse }, 0)
set_option maxHeartbeats 2000000 in
theorem Rename_ok (a b : Int) {h0 h : Heap} {l : List HP} {d : Nat} {D : Dk} (S : St h0 h (diskA d D :: l)) (ok : D.ok) :
    CallsH Try.prog 110 [.pointer (some ⟨d, 0, none⟩), .int .i64 a, .int .i64 b] h fun v h' => v = .int .i64 (renameD D a b).2 ∧ St h0 h' (diskA d (renameD D a b).1 :: l) := by
  (refine enterK c_disk_Disk_Rename (Nat.le_of_ble_eq_true rfl) fun K hK => ?_; (try simp (maxSteps := 1000000) (disch := first | omega | assumption | exact Nat.le_of_ble_eq_true rfl) only [go_sem, ↓mwp_block, simprocAttr, ir_disk_Disk_Rename]))
  refine call_intro (ask_ok a S) ?_
  rintro _ _ ⟨rfl, rfl⟩
  by_cases ha : askE D a = 0
  · obtain ⟨hlo, ha1, ha2⟩ := ask_in ha
    (try simp (maxSteps := 1000000) (disch := first | omega | assumption | exact Nat.le_of_ble_eq_true rfl) only [go_sem, ↓mwp_block, simprocAttr, ha])
    refine call_intro (ask_ok b S) ?_
    rintro _ _ ⟨rfl, rfl⟩
    by_cases hb : askE D b = 0
    · obtain ⟨_, hb1, hb2⟩ := ask_in hb
      have S0 := S
      obtain ⟨zs, hz, h8, S⟩ := diskA_open.1 S
      have hlt : a.toNat < zs.length := by omega
      have hltb : b.toNat < zs.length := by omega
      have hfz := fileOf_at hz ⟨ha1, ha2⟩ hlt
      have hc := fun fu lo => dcells_at (cap := D.cap) (fuse := fu) (lost := lo) hlt
      have hmv := fun (h : Heap) (X : HP) (hab : a.toNat ≠ b.toNat) (S : St h0 h (X :: (zs.map slotA ++ l))) => slot_move hab hlt hltb S
      have Sp := slot_pick hlt S
      generalize hzz : zs[a.toNat] = z at hfz hc hmv Sp
      ((try clear F); have F := S.all; (try simp only [all_cons, all_nil, says_cell, and_true] at F))
      cases z with
      | none =>
        (try simp (maxSteps := 1000000) (disch := first | omega | assumption | exact Nat.le_of_ble_eq_true rfl) only [go_sem, ↓mwp_block, simprocAttr, hb, F, hc, Nat.mul_one, ptrOf])
        refine hK _ _ ?_
        have hn : (fileOf D a).isNone = true := by rw [hfz]; rfl
        simp only [renameD, ha, hb, ne_eq, not_true_eq_false, if_false, if_pos hn]
        exact ⟨trivial, S0⟩
      | some z =>
        obtain ⟨p, f⟩ := z
        have hfo : fileOf D a = some f := hfz
        obtain ⟨s, Sp⟩ := fileA_open.1 Sp
        obtain ⟨B, e, rfl⟩ := Sp.p1.sl
        have F := Sp.all
        simp only [all_cons, all_nil, says_cell, and_true] at F
        have hn : ¬ (fileOf D a).isNone = true := by rw [hfo]; simp
        (try simp (maxSteps := 1000000) (disch := first | omega | assumption | exact Nat.le_of_ble_eq_true rfl) only [go_sem, ↓mwp_block, simprocAttr, hb, F, hc, Nat.mul_one, ptrOf])
        refine draw_eq ?_
        by_cases hab : a = b
        · (try simp (maxSteps := 1000000) (disch := first | omega | assumption | exact Nat.le_of_ble_eq_true rfl) only [go_sem, ↓mwp_block, simprocAttr, F, hc, Nat.mul_one, ptrOf])
          refine hK _ _ ?_
          simp only [renameD, ha, hb, ne_eq, not_true_eq_false, if_false, hfo, Option.isNone_some, Bool.false_eq_true, Option.getD_some, if_pos (Or.inl hab : a = b ∨ f.safe < f.bs.length)]
          exact ⟨trivial, S0⟩
        · by_cases hsf : f.safe < f.bs.length
          · (try simp (maxSteps := 1000000) (disch := first | omega | assumption | exact Nat.le_of_ble_eq_true rfl) only [go_sem, ↓mwp_block, simprocAttr, F, hc, Nat.mul_one, ptrOf])
            refine hK _ _ ?_
            simp only [renameD, ha, hb, ne_eq, not_true_eq_false, if_false, hfo, Option.isNone_some, Bool.false_eq_true, Option.getD_some, if_pos (Or.inr hsf : a = b ∨ f.safe < f.bs.length)]
            exact ⟨trivial, S0⟩
          · have hno : ¬ (a = b ∨ f.safe < f.bs.length) := by omega
            (try simp (maxSteps := 1000000) (disch := first | omega | assumption | exact Nat.le_of_ble_eq_true rfl) only [go_sem, ↓mwp_block, simprocAttr, F, hc, Nat.mul_one, ptrOf])
            refine call_intro (burn_ok S h8 ok.fuse) ?_
            rintro _ h (⟨hz0, rfl, S⟩ | ⟨hz0, rfl, S⟩)
            · (try simp (maxSteps := 1000000) (disch := first | omega | assumption | exact Nat.le_of_ble_eq_true rfl) only [go_sem, ↓mwp_block, simprocAttr])
              refine hK _ _ ?_
              simp only [renameD, ha, hb, ne_eq, not_true_eq_false, if_false, hfo, Option.isNone_some, Bool.false_eq_true, Option.getD_some, if_neg hno, if_pos hz0]
              exact ⟨trivial, diskA_open.2 ⟨zs, hz, h8, S⟩⟩
            · have F := S.all
              simp only [all_cons, says_cell] at F
              have hrd : rd1 h (.pointer (some ⟨d, 1 + a.toNat, none⟩)) = some (.pointer (some ⟨p, 0, none⟩)) := by rw [F.1.2.1, hc]; rfl
              have rx : ∀ K t, readT (fun h' => rd1 h' (.pointer (some ⟨d, 1 + a.toNat, none⟩)) = some (.pointer (some ⟨p, 0, none⟩))) (fun h' => rd1 h' (.pointer (some ⟨d, 1 + a.toNat, none⟩))) K t = K (.pointer (some ⟨p, 0, none⟩)) := fun K t => readT_self hrd
              have hab' : a.toNat ≠ b.toNat := by omega
              (try simp (maxSteps := 1000000) (disch := first | omega | assumption | exact Nat.le_of_ble_eq_true rfl) only [go_sem, ↓mwp_block, simprocAttr])
              refine draw_any (fun h' => rd1 h' (.pointer (some ⟨d, 1 + a.toNat, none⟩)) = some (.pointer (some ⟨p, 0, none⟩))) hrd ?_
              (try simp (maxSteps := 1000000) (disch := first | omega | assumption | exact Nat.le_of_ble_eq_true rfl) only [go_sem, ↓mwp_block, simprocAttr, Nat.mul_one, rx])
              refine st_store S rfl rfl (by rw [dcells_len h8]; omega) ?_
              clear S F
              intro h S
              rw [show [Value.pointer (some ⟨p, 0, none⟩)] = [ptrOf (some (p, f))] from rfl, dcells_setP hltb] at S
              have F := S.all
              simp only [all_cons, says_cell] at F
              (try simp (maxSteps := 1000000) (disch := first | omega | assumption | exact Nat.le_of_ble_eq_true rfl) only [go_sem, ↓mwp_block, simprocAttr, Nat.mul_one])
              refine st_store S rfl rfl (by rw [dcells_len (by simpa using h8)]; omega) ?_
              clear S F
              intro h S
              rw [show [Value.pointer none] = [ptrOf none] from rfl, dcells_setP (by simpa using hlt)] at S
              (try simp (maxSteps := 1000000) (disch := first | omega | assumption | exact Nat.le_of_ble_eq_true rfl) only [go_sem, ↓mwp_block, simprocAttr])
              refine hK _ _ ?_
              simp only [renameD, ha, hb, ne_eq, not_true_eq_false, if_false, hfo, Option.isNone_some, Bool.false_eq_true, Option.getD_some, if_neg hno, if_neg hz0]
              refine ⟨trivial, diskA_open.2 ⟨(zs.set b.toNat (some (p, f))).set a.toNat none, ?_, by simpa using h8, hmv _ _ hab' S⟩⟩
              simp only [List.map_set, hz]
              rfl
    · (try simp (maxSteps := 1000000) (disch := first | omega | assumption | exact Nat.le_of_ble_eq_true rfl) only [go_sem, ↓mwp_block, simprocAttr, hb])
      refine hK _ _ ?_
      simp only [renameD, ne_eq, ha, hb, not_false_eq_true, not_true_eq_false, if_true, if_false]
      exact ⟨trivial, S⟩
  · (try simp (maxSteps := 1000000) (disch := first | omega | assumption | exact Nat.le_of_ble_eq_true rfl) only [go_sem, ↓mwp_block, simprocAttr])
    refine hK _ _ ?_
    simp only [renameD, ne_eq, ha, not_false_eq_true, if_true]
    exact ⟨trivial, S⟩
end Go.Proofs.Ytnjjdpeglkiifaa.MX

/- The disk: Restart. -/
namespace Go.Proofs.Ytnjjdpeglkiifaa.MX
open Go Go.Proofs
set_option linter.unusedSimpArgs false
set_option linter.unusedVariables false

/-- Eight numbers. -/
def k8 (ks : List Int) : List Value := ks.map (.int .i64 ·)
/-- What is left of a file when the power comes back. -/
def restF (k : Int) (f : DF) : DF := ⟨f.bs.take (f.safe + min (max k 0).toNat (f.bs.length - f.safe)), f.safe + min (max k 0).toNat (f.bs.length - f.safe)⟩
def restS (k : Int) (o : Option DF) : Option DF := o.map (restF k)
def restartD (D : Dk) (ks : List Int) : Dk := { D with fs := List.zipWith restS ks D.fs, fuse := -1, lost := false }
/-- The i-th step of it. -/
theorem rest_step {ks : List Int} {fs ws : List (Option DF)} {i : Nat} (hk : ks.length = fs.length) (hi : i < fs.length) (hl : ws.length = fs.length) (hw : ∀ j : Nat, ws[j]? = if j < i then (List.zipWith restS ks fs)[j]? else fs[j]?) :
    ∀ j : Nat, (ws.set i (restS (ks[i]'(by omega)) fs[i]))[j]? = if j < i + 1 then (List.zipWith restS ks fs)[j]? else fs[j]? := by
  intro j
  have hz : i < (List.zipWith restS ks fs).length := by simp [hk]; exact hi
  by_cases hji : j = i
  · subst hji
    rw [List.getElem?_set_self (by omega), if_pos (by omega), List.getElem?_eq_getElem hz, List.getElem_zipWith]
  · rw [List.getElem?_set_ne (by omega), hw j]
    by_cases hj : j < i
    · rw [if_pos hj, if_pos (by omega)]
    · rw [if_neg hj, if_neg (by omega)]

set_option maxHeartbeats 4000000 in
theorem Restart_ok (ks : List Int) (hk : ks.length = 8) (hb : ∀ k ∈ ks, I64 k) {h0 h : Heap} {l : List HP} {d : Nat} {D : Dk} (S : St h0 h (diskA d D :: l)) (ok : D.ok) :
    CallsH Try.prog 51 [.pointer (some ⟨d, 0, none⟩), .agg (k8 ks).toArray] h fun v h' => St h0 h' (diskA d (restartD D ks) :: l) := by
  have hkl : (k8 ks).length = 8 := by simp [k8, hk]
  have hfl := ok.len
  obtain ⟨zs, hz, h8, S⟩ := diskA_open.1 S
  (refine enterK c_disk_Disk_Restart (Nat.le_of_ble_eq_true rfl) fun K hK => ?_; (try simp (maxSteps := 1000000) (disch := first | omega | assumption | exact Nat.le_of_ble_eq_true rfl) only [go_sem, ↓mwp_block, simprocAttr, ir_disk_Disk_Restart]))
  (refine st_alloc S ?_; clear S; intro b h S; (try simp only [splice_cons, splice_nil, List.set_cons_zero, List.set_cons_succ, Nat.zero_add, Nat.reduceAdd, List.cons_append, List.nil_append] at S); ((try clear F); have F := S.all; (try simp only [all_cons, all_nil, says_cell, and_true] at F)))
  (try simp (maxSteps := 1000000) (disch := first | omega | assumption | exact Nat.le_of_ble_eq_true rfl) only [go_sem, ↓mwp_block, simprocAttr])
  refine st_store S.p1 rfl rfl (by rw [dcells_len h8]; omega) ?_
  clear S F
  intro h S
  rw [dcells_setL h8] at S
  (try simp (maxSteps := 1000000) (disch := first | omega | assumption | exact Nat.le_of_ble_eq_true rfl) only [go_sem, ↓mwp_block, simprocAttr])
  refine st_store S rfl rfl (by rw [dcells_len h8]; omega) ?_
  clear S
  intro h S
  rw [dcells_setF h8] at S
  ((try clear F); have F := S.all; (try simp only [all_cons, all_nil, says_cell, and_true] at F))
  have hps : ((dcells D.cap zs (-1) false).drop 1).take 8 = zs.map ptrOf := by
    rw [dcells, List.drop_succ_cons, List.drop_zero, List.take_append_of_le_length (by simp [h8]), List.take_of_length_le (by simp [h8])]
  have hdl := dcells_len (cap := D.cap) (fuse := -1) (lost := false) h8
  (try simp (maxSteps := 1000000) (disch := first | omega | assumption | exact Nat.le_of_ble_eq_true rfl) only [go_sem, ↓mwp_block, simprocAttr, F, hps])
  have S : St h0 h (cellA d (dcells D.cap zs (-1) false) 113 :: (zs.map slotA ++ (cellA b (k8 ks) 77 :: l))) := S.perm (List.Perm.cons _ List.perm_middle.symm)
  refine loop_intro (fun ρ h' => ρ 3 = .pointer (some ⟨b, 0, none⟩) ∧ ρ 18 = .agg (zs.map ptrOf).toArray ∧ ∃ (i : Nat) (ws : List Slot), ρ 19 = .int .i64 i ∧ i ≤ 8 ∧ ws.length = 8 ∧ ws.map ptrOf = zs.map ptrOf ∧ (∀ j : Nat, (ws.map dfOf)[j]? = if j < i then (List.zipWith restS ks D.fs)[j]? else D.fs[j]?) ∧
    St h0 h' (cellA d (dcells D.cap zs (-1) false) 113 :: (ws.map slotA ++ (cellA b (k8 ks) 77 :: l)))) (fun ρ _ => 8 - (iv (ρ 19)).toNat) ?_ ?_
  · (try simp (maxSteps := 1000000) (disch := first | omega | assumption | exact Nat.le_of_ble_eq_true rfl) only [go_sem, ↓mwp_block, simprocAttr])
    exact ⟨0, zs, rfl, by omega, h8, rfl, fun j => by rw [if_neg (by omega), hz], S⟩
  · clear S F
    rintro ρ h J hJ ⟨e3, e18, i, ws, e19, hi, hw8, hwp, hw, S⟩
    (try simp (maxSteps := 1000000) (disch := first | omega | assumption | exact Nat.le_of_ble_eq_true rfl) only [go_sem, ↓mwp_block, simprocAttr, e19])
    refine cond_dec (fun hg => ?_) (fun hg => ?_)
    · have hi8 : i < 8 := by omega
      have hlt : i < ws.length := by omega
      have hpi : (zs.map ptrOf)[i]? = some (ptrOf ws[i]) := by rw [← hwp, List.getElem?_map, List.getElem?_eq_getElem hlt]; rfl
      have hki : (k8 ks)[i]? = some (.int .i64 (ks[i]'(by omega))) := by simp [k8, hk, hi8]
      have hkb := hb _ (List.getElem_mem (show i < ks.length by omega))
      have hstep := rest_step (ks := ks) (fs := D.fs) (ws := ws.map dfOf) (i := i) (by omega) (by omega) (by simp; omega) hw
      have hfi : D.fs[i]'(by omega) = dfOf ws[i] := by
        have := hw i
        rw [if_neg (by omega), List.getElem?_map, List.getElem?_eq_getElem hlt, List.getElem?_eq_getElem (show i < D.fs.length by omega)] at this
        exact (Option.some.inj this).symm
      rw [hfi] at hstep
      have hmem : dfOf ws[i] ∈ D.fs := by rw [← hfi]; exact List.getElem_mem _
      have hsz := used_get (fs := D.fs) (k := i) (by omega)
      rw [hfi] at hsz
      have hro := ok.room
      have hcp := ok.cap
      generalize ks[i]'(by omega) = kk at hki hkb hstep
      have hset0 : ws.set i ws[i] = ws := List.set_getElem_self hlt
      have Sp := slot_pick hlt S
      generalize hwi : ws[i] = w at hpi hstep hset0 Sp hmem hsz
      cases w with
      | none =>
        (try simp (maxSteps := 1000000) (disch := first | omega | assumption | exact Nat.le_of_ble_eq_true rfl) only [go_sem, ↓mwp_block, simprocAttr, e18, e19, hpi, Nat.mul_one, ptrOf])
        refine hJ _ _ ?_ ?_
        · (try simp (maxSteps := 1000000) (disch := first | omega | assumption | exact Nat.le_of_ble_eq_true rfl) only [go_sem, ↓mwp_block, simprocAttr, e3, e18, e19])
          refine ⟨i + 1, ws, rfl, by omega, hw8, hwp, ?_, S⟩
          have e1 : (ws.map dfOf).set i (restS kk (dfOf none)) = ws.map dfOf := by
            have h1 : restS kk (dfOf none) = dfOf none := rfl
            rw [h1, ← List.map_set, hset0]
          rw [e1] at hstep
          exact hstep
        · (try simp (maxSteps := 1000000) (disch := first | omega | assumption | exact Nat.le_of_ble_eq_true rfl) only [go_sem, ↓mwp_block, simprocAttr, e19])
          omega
      | some w =>
        obtain ⟨p, f⟩ := w
        obtain ⟨s, Sp⟩ := fileA_open.1 Sp
        obtain ⟨B, e, rfl⟩ := Sp.p1.sl
        have hle := (Sp.p1.own.arr bEnc_len).2.2
        have hsafe := ok.safe f hmem
        have hbl : f.bs.length ≤ used D.fs := hsz
        have S := Sp
        have Sb : St h0 h (cellA b (k8 ks) 77 :: l) := St.dropL (ps := cellA p [Value.slice B f.bs.length e, .int .i64 f.safe] 121 :: ownA bEnc 1 5 (Value.slice B f.bs.length e) f.bs :: cellA d (dcells D.cap zs (-1) false) 113 :: ((ws.take i ++ ws.drop (i + 1)).map slotA)) S
        have Fb := Sb.all
        simp only [all_cons, says_cell] at Fb
        ((try clear F); have F := S.all; (try simp only [all_cons, all_nil, says_cell, and_true] at F))
        (try simp (maxSteps := 1000000) (disch := first | omega | assumption | exact Nat.le_of_ble_eq_true rfl) only [go_sem, ↓mwp_block, simprocAttr, e3, e18, e19, hpi, Nat.mul_one, ptrOf])
        refine draw_eq ?_
        obtain ⟨hkb1, hkb2⟩ := hkb
        (try simp (maxSteps := 1000000) (disch := first | omega | assumption | exact Nat.le_of_ble_eq_true rfl) only [go_sem, ↓mwp_block, simprocAttr, e3, e18, e19, F, Fb, hki, Nat.mul_one])
        have hE : (f.safe : Int) + (if (f.bs.length : Int) - f.safe < (if 0 > kk then 0 else kk) then (f.bs.length : Int) - f.safe else (if 0 > kk then 0 else kk)) = ((f.safe + min (max kk 0).toNat (f.bs.length - f.safe) : Nat) : Int) := by omega
        simp only [hE, Int.toNat_natCast]
        have hN : f.safe + min (max kk 0).toNat (f.bs.length - f.safe) ≤ f.bs.length := by omega
        refine st_store S rfl rfl (Nat.le_of_ble_eq_true rfl) ?_
        clear S F Fb Sb
        intro h S
        (try simp only [splice_cons, splice_nil, List.set_cons_zero, List.set_cons_succ, Nat.zero_add, Nat.reduceAdd, List.cons_append, List.nil_append] at S)
        (try simp (maxSteps := 1000000) (disch := first | omega | assumption | exact Nat.le_of_ble_eq_true rfl) only [go_sem, ↓mwp_block, simprocAttr])
        refine st_store S rfl rfl (Nat.le_of_ble_eq_true rfl) ?_
        clear S
        intro h S
        (try simp only [splice_cons, splice_nil, List.set_cons_zero, List.set_cons_succ, Nat.zero_add, Nat.reduceAdd, List.cons_append, List.nil_append] at S)
        rw [hE] at S
        have S := slot_put (zs := ws) (z := some (p, restF kk f)) hlt (fileA_open.2 ⟨_, (S.p1.cut hN).p1⟩)
        (try simp (maxSteps := 1000000) (disch := first | omega | assumption | exact Nat.le_of_ble_eq_true rfl) only [go_sem, ↓mwp_block, simprocAttr, e19])
        refine hJ _ _ ?_ ?_
        · (try simp (maxSteps := 1000000) (disch := first | omega | assumption | exact Nat.le_of_ble_eq_true rfl) only [go_sem, ↓mwp_block, simprocAttr, e3, e18, e19])
          refine ⟨i + 1, ws.set i (some (p, restF kk f)), rfl, by omega, by simpa using hw8, ?_, ?_, S⟩
          · rw [← hwp, List.map_set]
            have h1 : (ws.set i (some (p, f))).map ptrOf = ws.map ptrOf := by rw [hset0]
            rw [List.map_set] at h1
            exact h1
          · rw [List.map_set]
            exact hstep
        · (try simp (maxSteps := 1000000) (disch := first | omega | assumption | exact Nat.le_of_ble_eq_true rfl) only [go_sem, ↓mwp_block, simprocAttr, e19])
          omega
    · obtain rfl : i = 8 := by omega
      (try simp (maxSteps := 1000000) (disch := first | omega | assumption | exact Nat.le_of_ble_eq_true rfl) only [go_sem, ↓mwp_block, simprocAttr])
      refine hK _ _ (diskA_open.2 ⟨ws, ?_, hw8, ?_⟩)
      · apply List.ext_getElem?
        intro j
        rw [hw j]
        by_cases hj : j < 8
        · rw [if_pos hj]
          rfl
        · rw [if_neg hj, List.getElem?_eq_none (by omega)]
          exact (List.getElem?_eq_none (by simp [restartD]; omega)).symm
      · have S2 : St h0 h (cellA b (k8 ks) 77 :: cellA d (dcells D.cap zs (-1) false) 113 :: (ws.map slotA ++ l)) := S.perm ((List.Perm.cons _ List.perm_middle).trans (List.Perm.swap _ _ _))
        have S3 := S2.tl
        have e1 : dcells D.cap zs (-1) false = dcells D.cap ws (-1) false := by rw [dcells, dcells, hwp]
        rw [e1] at S3
        exact S3
end Go.Proofs.Ytnjjdpeglkiifaa.MX

/- A nil disk; the law DiskNil. -/
namespace Go.Proofs.Ytnjjdpeglkiifaa.MX
open Go Go.Proofs
set_option linter.unusedSimpArgs false
set_option linter.unusedVariables false

theorem Sync_nil (n : Int) (h : Heap) : CallsH Try.prog 50 [.pointer none, .int .i64 n] h fun v h' => v = .int .i64 1 ∧ h' = h := by
  (refine enterK c_disk_Disk_Sync (Nat.le_of_ble_eq_true rfl) fun K hK => ?_; (try simp (maxSteps := 1000000) (disch := first | omega | assumption | exact Nat.le_of_ble_eq_true rfl) only [go_sem, ↓mwp_block, simprocAttr, ir_disk_Disk_Sync]))
  refine call_intro (there_nil n _) ?_
  rintro _ _ ⟨rfl, rfl⟩
  (try simp (maxSteps := 1000000) (disch := first | omega | assumption | exact Nat.le_of_ble_eq_true rfl) only [go_sem, ↓mwp_block, simprocAttr])
  exact hK _ _ ⟨rfl, rfl⟩
theorem Cut_nil (n m : Int) (h : Heap) : CallsH Try.prog 85 [.pointer none, .int .i64 n, .int .i64 m] h fun v h' => v = .int .i64 1 ∧ h' = h := by
  (refine enterK c_disk_Disk_Cut (Nat.le_of_ble_eq_true rfl) fun K hK => ?_; (try simp (maxSteps := 1000000) (disch := first | omega | assumption | exact Nat.le_of_ble_eq_true rfl) only [go_sem, ↓mwp_block, simprocAttr, ir_disk_Disk_Cut]))
  refine call_intro (there_nil n _) ?_
  rintro _ _ ⟨rfl, rfl⟩
  (try simp (maxSteps := 1000000) (disch := first | omega | assumption | exact Nat.le_of_ble_eq_true rfl) only [go_sem, ↓mwp_block, simprocAttr])
  exact hK _ _ ⟨rfl, rfl⟩
theorem Rename_nil (n m : Int) (h : Heap) : CallsH Try.prog 110 [.pointer none, .int .i64 n, .int .i64 m] h fun v h' => v = .int .i64 1 ∧ h' = h := by
  (refine enterK c_disk_Disk_Rename (Nat.le_of_ble_eq_true rfl) fun K hK => ?_; (try simp (maxSteps := 1000000) (disch := first | omega | assumption | exact Nat.le_of_ble_eq_true rfl) only [go_sem, ↓mwp_block, simprocAttr, ir_disk_Disk_Rename]))
  refine call_intro (ask_nil n _) ?_
  rintro _ _ ⟨rfl, rfl⟩
  (try simp (maxSteps := 1000000) (disch := first | omega | assumption | exact Nat.le_of_ble_eq_true rfl) only [go_sem, ↓mwp_block, simprocAttr])
  exact hK _ _ ⟨rfl, rfl⟩
theorem Remove_nil (n : Int) (h : Heap) : CallsH Try.prog 77 [.pointer none, .int .i64 n] h fun v h' => v = .int .i64 1 ∧ h' = h := by
  (refine enterK c_disk_Disk_Remove (Nat.le_of_ble_eq_true rfl) fun K hK => ?_; (try simp (maxSteps := 1000000) (disch := first | omega | assumption | exact Nat.le_of_ble_eq_true rfl) only [go_sem, ↓mwp_block, simprocAttr, ir_disk_Disk_Remove]))
  refine call_intro (there_nil n _) ?_
  rintro _ _ ⟨rfl, rfl⟩
  (try simp (maxSteps := 1000000) (disch := first | omega | assumption | exact Nat.le_of_ble_eq_true rfl) only [go_sem, ↓mwp_block, simprocAttr])
  exact hK _ _ ⟨rfl, rfl⟩
theorem Read_nil (n : Int) (h : Heap) : CallsH Try.prog 83 [.pointer none, .int .i64 n] h fun v h' => v = .tuple #[.slice none 0 0, .int .i64 1] ∧ h' = h := by
  (refine enterK c_disk_Disk_Read (Nat.le_of_ble_eq_true rfl) fun K hK => ?_; (try simp (maxSteps := 1000000) (disch := first | omega | assumption | exact Nat.le_of_ble_eq_true rfl) only [go_sem, ↓mwp_block, simprocAttr, ir_disk_Disk_Read]))
  refine call_intro (there_nil n _) ?_
  rintro _ _ ⟨rfl, rfl⟩
  (try simp (maxSteps := 1000000) (disch := first | omega | assumption | exact Nat.le_of_ble_eq_true rfl) only [go_sem, ↓mwp_block, simprocAttr])
  exact hK _ _ ⟨rfl, rfl⟩
theorem Restart_nil (keep : List Value) (h : Heap) : CallsH Try.prog 51 [.pointer none, .agg keep.toArray] h fun v h' => Fr h h' [] := by
  have S := St.nil h
  (refine enterK c_disk_Disk_Restart (Nat.le_of_ble_eq_true rfl) fun K hK => ?_; (try simp (maxSteps := 1000000) (disch := first | omega | assumption | exact Nat.le_of_ble_eq_true rfl) only [go_sem, ↓mwp_block, simprocAttr, ir_disk_Disk_Restart]))
  (refine st_alloc S ?_; clear S; intro b h S; (try simp only [splice_cons, splice_nil, List.set_cons_zero, List.set_cons_succ, Nat.zero_add, Nat.reduceAdd, List.cons_append, List.nil_append] at S); ((try clear F); have F := S.all; (try simp only [all_cons, all_nil, says_cell, and_true] at F)))
  (try simp (maxSteps := 1000000) (disch := first | omega | assumption | exact Nat.le_of_ble_eq_true rfl) only [go_sem, ↓mwp_block, simprocAttr])
  exact hK _ _ S.fr

/-- An act's cells. -/
structure DAct where
  kind : Int
  a : Int
  b : Int
  dA : Option Addr
  dn : Nat
  dc : Nat
  k0 : Int
  k1 : Int
  k2 : Int
  k3 : Int
  k4 : Int
  k5 : Int
  k6 : Int
  k7 : Int
def DAct.keep (x : DAct) : List Value := [.int .i64 x.k0, .int .i64 x.k1, .int .i64 x.k2, .int .i64 x.k3, .int .i64 x.k4, .int .i64 x.k5, .int .i64 x.k6, .int .i64 x.k7]
def DAct.enc (x : DAct) : List Value := [.int .u8 x.kind, .int .i64 x.a, .int .i64 x.b, .slice x.dA x.dn x.dc, .int .i64 x.k0, .int .i64 x.k1, .int .i64 x.k2, .int .i64 x.k3, .int .i64 x.k4, .int .i64 x.k5, .int .i64 x.k6, .int .i64 x.k7]
def DAct.ok (x : DAct) : Prop := (0 ≤ x.kind ∧ x.kind < 256) ∧ I64 x.a ∧ I64 x.b
theorem goodS_slice {P : Program} {h : Heap} {e : Nat} {v : Value} (hg : GoodS P h e v) : ∃ A n c, v = .slice A n c := by
  rcases hg with rfl | ⟨a, len, cap, d, rfl, _⟩
  · exact ⟨_, _, _, rfl⟩
  · exact ⟨_, _, _, rfl⟩
theorem okD0 : (⟨10, List.replicate 8 none, -1, false⟩ : Dk).ok :=
  ⟨rfl, by decide, by decide, by decide, by simp⟩
end Go.Proofs.Ytnjjdpeglkiifaa.MX

/- What is safe stays: plain facts; and the walk of DiskSafe. -/
namespace Go.Proofs.Ytnjjdpeglkiifaa.MX
open Go Go.Proofs
set_option linter.unusedSimpArgs false
set_option linter.unusedVariables false

theorem used_set {fs : List (Option DF)} {k : Nat} (hk : k < fs.length) (f : DF) : used (fs.set k (some f)) + szF fs[k] = used fs + f.bs.length := by
  have e : fs = fs.take k ++ fs[k] :: fs.drop (k + 1) := by rw [← List.drop_eq_getElem_cons hk, List.take_append_drop]
  have h1 : used fs = used (fs.take k) + (szF fs[k] + used (fs.drop (k + 1))) :=
    (congrArg used e).trans (by simp only [used, List.map_append, List.map_cons, List.sum_append, List.sum_cons])
  have h2 : used (fs.set k (some f)) = used (fs.take k) + (f.bs.length + used (fs.drop (k + 1))) := by
    rw [List.set_eq_take_append_cons_drop, if_pos hk]
    simp [used, szF]
  omega
theorem fileOf_1 {D : Dk} (h8 : D.fs.length = 8) : fileOf D 1 = D.fs[1]'(by omega) := by
  rw [fileOf, if_pos (by decide), List.getD_eq_getElem?_getD, List.getElem?_eq_getElem (by omega)]
  rfl
theorem ok_set {D : Dk} {f : DF} {fu : Int} {lo : Bool} (ok : D.ok) (hs : f.safe ≤ f.bs.length) (hf : -1 ≤ fu ∧ fu < 9223372036854775808) (hr : (f.bs.length : Int) - szF (fileOf D 1) ≤ D.cap - used D.fs) : (⟨D.cap, D.fs.set 1 (some f), fu, lo⟩ : Dk).ok := by
  have h8 := ok.len
  have hu := used_set (fs := D.fs) (k := 1) (by omega) f
  rw [fileOf_1 h8] at hr
  refine ⟨by simpa using h8, ok.cap, ?_, hf, fun g hg => ?_⟩
  · show (used (D.fs.set 1 (some f)) : Int) ≤ D.cap
    omega
  · rcases List.mem_or_eq_of_mem_set hg with h | h
    · exact ok.safe g h
    · cases h
      exact hs
theorem fileOf_set {D : Dk} {f : DF} {fu : Int} {lo : Bool} (h8 : D.fs.length = 8) : fileOf ⟨D.cap, D.fs.set 1 (some f), fu, lo⟩ 1 = some f := by
  rw [fileOf_1 (by simpa using h8)]
  simp
/-- A file that begins with some safe bytes. -/
def Inv (b : List UInt8) (D : Dk) : Prop := D.ok ∧ ∃ f, fileOf D 1 = some f ∧ f.bs.take b.length = b ∧ b.length ≤ f.safe
theorem burnF_in {fu : Int} (h : -1 ≤ fu ∧ fu < 9223372036854775808) : -1 ≤ burnF fu ∧ burnF fu < 9223372036854775808 := by
  unfold burnF
  split <;> omega
theorem safe_of {D : Dk} {f : DF} (ok : D.ok) (hf : fileOf D 1 = some f) : f.safe ≤ f.bs.length := by
  have h8 := ok.len
  rw [fileOf_1 h8] at hf
  exact ok.safe f (by rw [← hf]; exact List.getElem_mem _)
theorem append_ok1 {D : Dk} (ok : D.ok) (ys : List UInt8) : (appendD D 1 ys).1.ok := by
  unfold appendD
  split
  · exact ok
  · split
    · exact ok
    · rename_i h2
      have hs : ((fileOf D 1).getD ⟨[], 0⟩).safe ≤ ((fileOf D 1).getD ⟨[], 0⟩).bs.length := by
        cases hf : fileOf D 1 with
        | none => simp
        | some f => exact safe_of ok hf
      have hz : szF (fileOf D 1) = ((fileOf D 1).getD ⟨[], 0⟩).bs.length := by cases fileOf D 1 <;> rfl
      split
      · refine ok_set ok (by simp; omega) ok.fuse ?_
        simp only [List.length_append, List.length_take]
        omega
      · refine ok_set ok (by simp; omega) (burnF_in ok.fuse) ?_
        simp only [List.length_append]
        omega
theorem inv_append {b : List UInt8} {D : Dk} (hi : Inv b D) (ys : List UInt8) : Inv b (appendD D 1 ys).1 := by
  obtain ⟨ok, f, hf, hp, hs⟩ := hi
  have hsl := safe_of ok hf
  refine ⟨append_ok1 ok ys, ?_⟩
  unfold appendD
  split
  · exact ⟨f, hf, hp, hs⟩
  · split
    · exact ⟨f, hf, hp, hs⟩
    · split
      · refine ⟨_, fileOf_set ok.len, ?_, by simpa [hf] using hs⟩
        simp only [hf, Option.getD_some]
        rw [List.take_append_of_le_length (by omega), hp]
      · refine ⟨_, fileOf_set ok.len, ?_, by simpa [hf] using hs⟩
        simp only [hf, Option.getD_some]
        rw [List.take_append_of_le_length (by omega), hp]
theorem sync_ok1 {D : Dk} (ok : D.ok) : (syncD D 1).1.ok := by
  unfold syncD
  split
  · exact ok
  · split
    · exact ⟨ok.len, ok.cap, ok.room, ok.fuse, ok.safe⟩
    · have hz : szF (fileOf D 1) = ((fileOf D 1).getD ⟨[], 0⟩).bs.length := by cases fileOf D 1 <;> rfl
      have := ok.room
      exact ok_set ok (Nat.le_refl _) (burnF_in ok.fuse) (by simp only; omega)
theorem inv_sync {b : List UInt8} {D : Dk} (hi : Inv b D) : Inv b (syncD D 1).1 := by
  obtain ⟨ok, f, hf, hp, hs⟩ := hi
  have hsl := safe_of ok hf
  refine ⟨sync_ok1 ok, ?_⟩
  unfold syncD
  split
  · exact ⟨f, hf, hp, hs⟩
  · split
    · exact ⟨f, hf, hp, hs⟩
    · refine ⟨_, fileOf_set ok.len, by simpa [hf] using hp, by simp only [hf, Option.getD_some]; omega⟩
end Go.Proofs.Ytnjjdpeglkiifaa.MX

/- The law DiskSafe. -/
namespace Go.Proofs.Ytnjjdpeglkiifaa.MX
open Go Go.Proofs
set_option linter.unusedSimpArgs false
set_option linter.unusedVariables false

theorem okWide_arr {P : Program} {w : World} {r : Reach} {base t n e : Nat} {v : Value} (ht : P.underlying t = some (.array n e)) (h : Value.okWide P w r base t v) : ∃ cs, v = .agg cs ∧ cs.size = P.cellsOf t := by
  simp only [Value.okWide, ht] at h
  obtain ⟨cs, h1, h2, _⟩ := h
  exact ⟨cs, h1, h2⟩
/-- Bytes in a slice of slices. -/
structure BSl where
  A : Option Addr
  c : Nat
  ys : List UInt8
def BSl.enc (x : BSl) : List Value := [.slice x.A x.ys.length x.c]
def BSl.ok (h : Heap) (x : BSl) : Prop := Arr bEnc 1 h x.A x.ys ∧ x.ys.length ≤ x.c ∧ x.c ≤ maxLen
theorem bsl_of {h : Heap} {d : Nat} {cs : List Value} (hg : Good Try.prog h d 23 cs) : ∃ x : BSl, cs = x.enc ∧ x.ok h := by
  have hl : leaves Try.prog 2 23 = some [.slice 5] := by kernel_rfl
  obtain ⟨v, _, rfl, g, rfl⟩ := leaves_of 2 hg hl
  obtain ⟨A, c, xs, rfl, ha, h1, h2, _⟩ := GoodS.arr (enc := U8.enc) (sz := 1) (by kernel_rfl) (by decide) g u8_of
  exact ⟨⟨A, c, xs.map U8.n⟩, by simp [BSl.enc], arrU8 ha, by simpa using h1, h2⟩
structure K8 where
  k0 : Int
  k1 : Int
  k2 : Int
  k3 : Int
  k4 : Int
  k5 : Int
  k6 : Int
  k7 : Int
def K8.l (x : K8) : List Int := [x.k0, x.k1, x.k2, x.k3, x.k4, x.k5, x.k6, x.k7]
def K8.enc (x : K8) : List Value := k8 x.l
def K8.ok (x : K8) : Prop := ∀ k ∈ x.l, I64 k
theorem k8_of {h : Heap} {d : Nat} {cs : List Value} (hg : Good Try.prog h d 77 cs) : ∃ x : K8, cs = x.enc ∧ x.ok := by
  have hl : leaves Try.prog 3 77 = some [.int .i64, .int .i64, .int .i64, .int .i64, .int .i64, .int .i64, .int .i64, .int .i64] := by kernel_rfl
  obtain ⟨k0, _, rfl, w0, k1, _, rfl, w1, k2, _, rfl, w2, k3, _, rfl, w3, k4, _, rfl, w4, k5, _, rfl, w5, k6, _, rfl, w6, k7, _, rfl, w7, rfl⟩ := leaves_of 3 hg hl
  refine ⟨⟨k0, k1, k2, k3, k4, k5, k6, k7⟩, rfl, ?_⟩
  intro k hk
  simp only [K8.l, List.mem_cons, List.not_mem_nil, or_false] at hk
  rcases hk with rfl | rfl | rfl | rfl | rfl | rfl | rfl | rfl
  · exact wf_i64 w0
  · exact wf_i64 w1
  · exact wf_i64 w2
  · exact wf_i64 w3
  · exact wf_i64 w4
  · exact wf_i64 w5
  · exact wf_i64 w6
  · exact wf_i64 w7

theorem used_rest : ∀ (ks : List Int) (fs : List (Option DF)), used (List.zipWith restS ks fs) ≤ used fs
  | [], fs => by simp [used]
  | _ :: _, [] => by simp [used]
  | k :: ks, o :: fs => by
    have ih := used_rest ks fs
    have h1 : szF (restS k o) ≤ szF o := by
      cases o with
      | none => exact Nat.le_refl _
      | some f => simp [restS, restF, szF]; omega
    simp only [used, List.zipWith_cons_cons, List.map_cons, List.sum_cons] at ih ⊢
    omega
theorem rest_ok {D : Dk} (ok : D.ok) {ks : List Int} (hk : ks.length = 8) : (restartD D ks).ok := by
  have h8 := ok.len
  refine ⟨by simp [restartD, hk, h8], ok.cap, ?_, by simp [restartD], ?_⟩
  · have := used_rest ks D.fs
    have := ok.room
    show (used (List.zipWith restS ks D.fs) : Int) ≤ D.cap
    omega
  · intro g hg
    obtain ⟨i, hi, he⟩ := List.getElem_of_mem hg
    have hi' : i < (List.zipWith restS ks D.fs).length := hi
    have hi2 : i < 8 := by simpa [hk, h8] using hi'
    have he' : (List.zipWith restS ks D.fs)[i]'hi' = some g := he
    rw [List.getElem_zipWith] at he'
    cases hf : D.fs[i]'(by omega) with
    | none => rw [hf] at he'; cases he'
    | some f =>
      rw [hf] at he'
      have := Option.some.inj he'
      subst this
      have hs := ok.safe f (by rw [← hf]; exact List.getElem_mem _)
      simp only [restF, List.length_take]
      omega
theorem inv_fuse {b : List UInt8} {D : Dk} (hi : Inv b D) {m : Int} (h0 : 0 ≤ m) (h1 : m < 9223372036854775808) : Inv b (fuseD D m).1 := by
  obtain ⟨ok, f, hf, hp, hs⟩ := hi
  unfold fuseD
  split
  · exact ⟨ok, f, hf, hp, hs⟩
  · split
    · exact ⟨ok, f, hf, hp, hs⟩
    · exact ⟨⟨ok.len, ok.cap, ok.room, ⟨by simp only; omega, h1⟩, ok.safe⟩, f, hf, hp, hs⟩
theorem firstB_ok (b : List UInt8) (hb : b.length ≤ 5000) : (appendD ⟨1048576, List.replicate 8 none, -1, false⟩ 1 b).2 = 0 ∧ (syncD (appendD ⟨1048576, List.replicate 8 none, -1, false⟩ 1 b).1 1).2 = 0 ∧ Inv b (syncD (appendD ⟨1048576, List.replicate 8 none, -1, false⟩ 1 b).1 1).1 := by
  have e1 : appendD ⟨1048576, List.replicate 8 none, -1, false⟩ 1 b = (⟨1048576, [none, some ⟨b, 0⟩, none, none, none, none, none, none], -1, false⟩, 0) := by
    unfold appendD
    rw [if_neg (by decide), if_neg (by simp [used, szF]; omega), if_neg (by show ¬ ((-1 : Int) = 0); decide)]
    rfl
  have e2 : syncD ⟨1048576, [none, some ⟨b, 0⟩, none, none, none, none, none, none], -1, false⟩ 1 = (⟨1048576, [none, some ⟨b, b.length⟩, none, none, none, none, none, none], -1, false⟩, 0) := by
    unfold syncD
    rw [if_neg (by simp [thereE, askE, fileOf]), if_neg (by show ¬ ((-1 : Int) = 0); decide)]
    rfl
  rw [e1]
  simp only
  rw [e2]
  refine ⟨by simp, by simp, ⟨rfl, by simp, by simp [used, szF]; omega, by simp, ?_⟩, ⟨b, b.length⟩, by simp [fileOf], by simp, Nat.le_refl _⟩
  intro f hf
  simp at hf
  subst hf
  exact Nat.le_refl _

end Go.Proofs.Ytnjjdpeglkiifaa.MX

/- The log: what it is; what a file begins with. -/
namespace Go.Proofs.Ytnjjdpeglkiifaa.MX
open Go Go.Proofs
set_option linter.unusedSimpArgs false
set_option linter.unusedVariables false
set_option maxHeartbeats 4000000
structure Lg where
  file : Int
  gen : Int
  img : List UInt8
  recs : List (List UInt8)
  over : Bool
/-- Bytes that are only read. -/
def imgA (v : Value) (bs : List UInt8) : HP := exA fun s : Option Addr × Nat => starsA [pureA (v = .slice s.1 bs.length s.2 ∧ bs.length ≤ s.2 ∧ s.2 < 9223372036854775808), viewsA [(s.1, bs)]]
theorem imgA_open {h0 h : Heap} {l : List HP} {v : Value} {bs : List UInt8} : St h0 h (imgA v bs :: l) ↔ ∃ A c, v = .slice A bs.length c ∧ bs.length ≤ c ∧ c < 9223372036854775808 ∧ St h0 h (viewsA [(A, bs)] :: l) := by
  refine St.ex.trans ⟨?_, ?_⟩
  · rintro ⟨⟨A, c⟩, S⟩
    have S := St.stars.1 S
    obtain ⟨⟨h1, h2, h3⟩, S⟩ := St.pure.1 S
    exact ⟨A, c, h1, h2, h3, S⟩
  · rintro ⟨A, c, h1, h2, h3, S⟩
    exact ⟨(A, c), St.stars.2 (St.pure.2 ⟨⟨h1, h2, h3⟩, S⟩)⟩
section
variable {h0 h : Heap} {l : List HP}
theorem own_views {A : Option Addr} {n c : Nat} {xs : List UInt8} (S : St h0 h (ownA bEnc 1 5 (.slice A n c) xs :: l)) : St h0 h (viewsA [(A, xs)] :: l) := by
  obtain ⟨C, hp, _, hup⟩ := S.hd
  have harr := S.arr bEnc_len
  refine hup h (viewsA [(A, xs)]) ([(A, xs)].flatMap vBlk) (Fr.refl _ _) ⟨by intro x hx; simp at hx; subst hx; exact harr, rfl⟩ ?_
  intro b hb
  refine .inl ?_
  rw [hp.1]
  simp only [List.flatMap_cons, List.flatMap_nil, List.append_nil, vBlk] at hb
  split at hb
  · cases hb
  · cases A with
    | none => cases hb
    | some a => exact hb
theorem own_img {v : Value} {xs : List UInt8} (S : St h0 h (ownA bEnc 1 5 v xs :: l)) : St h0 h (imgA v xs :: l) := by
  obtain ⟨A, c, rfl⟩ := S.sl
  obtain ⟨_, h1, h2⟩ := S.cap
  exact imgA_open.2 ⟨A, c, rfl, h1, h2, own_views S⟩
theorem img_nil (S : St h0 h l) : St h0 h (imgA (.slice none 0 0) [] :: l) := own_img S.nilS
theorem cut_view {b c k : Nat} {xs : List UInt8} (S : St h0 h (ownA bEnc 1 5 (.slice (some ⟨b, 0, none⟩) xs.length c) xs :: l)) (hk : k ≤ xs.length) :
    ∃ A' c', cutV (some ⟨b, 0, none⟩) 1 k xs.length c c = some (.slice A' (xs.drop k).length c') ∧ (xs.drop k).length ≤ c' ∧ c' < 9223372036854775808 ∧ St h0 h (viewsA [(A', xs.drop k)] :: l) := by
  obtain ⟨_, hc1, hc2⟩ := S.cap
  have S1 := own_views S
  have hl : ((xs.length : Int) - k).toNat = (xs.drop k).length := by simp
  unfold cutV
  rw [if_pos ⟨by omega, by omega, by omega, by omega⟩, hl]
  by_cases e : (c : Int) = k
  · rw [if_pos e]
    have hd : xs.drop k = [] := by simp; omega
    rw [hd]
    refine ⟨_, _, rfl, by simp, by omega, ?_⟩
    refine S1.reView ?_ ?_
    · intro x hx
      simp only [List.mem_cons, List.not_mem_nil, or_false] at hx
      subst hx
      exact Arr.nil _ _ _ _
    · intro x hx y hy
      simp only [List.mem_cons, List.not_mem_nil, or_false] at hx
      subst hx
      cases hy
  · rw [if_neg e]
    refine ⟨some ⟨b, k, none⟩, ((c : Int) - k).toNat, ?_, by rw [List.length_drop]; omega, by omega, ?_⟩
    · simp only [Option.map_some, add_none, Int.toNat_natCast, Nat.mul_one, Nat.zero_add]
    · have S2 := S1.split2 k
      rw [Nat.zero_add] at S2
      refine S2.reView ?_ ?_
      · intro x hx
        simp only [List.mem_cons, List.not_mem_nil, or_false] at hx
        subst hx
        exact S2.view (by simp)
      · intro x hx y hy
        simp only [List.mem_cons, List.not_mem_nil, or_false] at hx
        subst hx
        exact ⟨_, by simp, hy⟩
def logA (p d : Nat) (L : Lg) : HP := exA fun s : Value × Value => starsA [cellA p [.pointer (some ⟨d, 0, none⟩), .int .i64 L.file, .int .i64 L.gen, s.1, s.2, .bool L.over] 115, imgA s.1 L.img, lsA s.2 L.recs]
theorem logA_open {p d : Nat} {L : Lg} : St h0 h (logA p d L :: l) ↔ ∃ im rs, St h0 h (cellA p [.pointer (some ⟨d, 0, none⟩), .int .i64 L.file, .int .i64 L.gen, im, rs, .bool L.over] 115 :: imgA im L.img :: lsA rs L.recs :: l) :=
  St.ex.trans ⟨fun ⟨s, S⟩ => ⟨s.1, s.2, St.stars.1 S⟩, fun ⟨a, b, S⟩ => ⟨(a, b), St.stars.2 S⟩⟩
/-- What a file begins with: a generation, an image, and how many bytes it is. -/
noncomputable def begins (b : List UInt8) : Option (Int × List UInt8 × Nat) := match firstOf b with
  | some x => if x.length < 4 then none else some (num (x.take 4), x.drop 4, 7 + x.length)
  | none => none
theorem begun_ok {A : Option Addr} {c : Nat} {b : List UInt8} (S : St h0 h l) (ha : ∀ h', St h0 h' l → Arr bEnc 1 h' A b) (hc : b.length ≤ c) (hc2 : c < 9223372036854775808) (hl : b.length < 10000000) :
    CallsH Try.prog 102 [.slice A b.length c] h fun r h' => match begins b with
      | none => r = .tuple #[.int .i64 0, .slice none 0 0, .int .i64 0] ∧ St h0 h' l
      | some (g, img, n) => ∃ v, r = .tuple #[.int .i64 g, v, .int .i64 n] ∧ St h0 h' (imgA v img :: l) := by
  have hb : begins b = match firstOf b with
    | some x => if x.length < 4 then none else some (num (x.take 4), x.drop 4, 7 + x.length)
    | none => none := rfl
  (refine enterK c_log_begun (Nat.le_of_ble_eq_true rfl) fun K hK => ?_; (try simp (maxSteps := 1000000) (disch := first | omega | assumption | exact Nat.le_of_ble_eq_true rfl) only [go_sem, ↓mwp_block, simprocAttr, ir_log_begun]))
  refine call_intro (First_ok S ha hc hc2 hl) ?_
  intro v h hv
  cases hf : firstOf b with
  | none =>
    rw [hf] at hv hb
    simp only at hb
    rw [hb] at hK
    obtain ⟨rfl, S⟩ := hv
    (try simp (maxSteps := 1000000) (disch := first | omega | assumption | exact Nat.le_of_ble_eq_true rfl) only [go_sem, ↓mwp_block, simprocAttr])
    exact hK _ _ ⟨rfl, S⟩
  | some x =>
    rw [hf] at hv hb
    simp only at hb
    obtain ⟨v, rfl, S⟩ := hv
    obtain ⟨B, e, rfl⟩ := S.sl
    by_cases h4 : x.length < 4
    · rw [if_pos h4] at hb
      rw [hb] at hK
      have h4' : (x.length : Int) < 4 := by omega
      (try simp (maxSteps := 1000000) (disch := first | omega | assumption | exact Nat.le_of_ble_eq_true rfl) only [go_sem, ↓mwp_block, simprocAttr, h4'])
      exact hK _ _ ⟨rfl, S.tl⟩
    · rw [if_neg h4] at hb
      rw [hb] at hK
      have h4' : ¬ (x.length : Int) < 4 := by omega
      obtain ⟨bb, rfl⟩ := S.ownAt (by omega)
      have hxl : x.length < 100000000 := by
        by_cases ho : frOk b
        · rw [firstOf_yes ho] at hf
          cases hf
          have := frX_len ho
          have := ho.2.2.2.1
          omega
        · rw [firstOf_no ho] at hf; cases hf
      (try simp (maxSteps := 1000000) (disch := first | omega | assumption | exact Nat.le_of_ble_eq_true rfl) only [go_sem, ↓mwp_block, simprocAttr, h4'])
      refine call_intro (NewIn_ok S (S.arr bEnc_len) (fun h => by cases h) hxl) ?_
      clear S
      rintro _ h ⟨i, rfl, S⟩
      (try simp (maxSteps := 1000000) (disch := first | omega | assumption | exact Nat.le_of_ble_eq_true rfl) only [go_sem, ↓mwp_block, simprocAttr])
      refine call_intro (inU32_ok S (by omega)) ?_
      clear S
      rintro _ h ⟨rfl, S⟩
      have hv : rdV 4 x false = num (x.take 4) := by rw [rdV, if_neg (by simp; omega)]
      rw [hv]
      obtain ⟨A', c', hcut, h1, h2, S⟩ := cut_view S.tl (k := 4) (by omega)
      have hcut : cutV (some ⟨bb, 0, none⟩) 1 4 x.length e e = some (.slice A' (x.drop 4).length c') := hcut
      (try simp (maxSteps := 1000000) (disch := first | omega | assumption | exact Nat.le_of_ble_eq_true rfl) only [go_sem, ↓mwp_block, simprocAttr])
      refine draw_eq ?_
      (try simp (maxSteps := 1000000) (disch := first | omega | assumption | exact Nat.le_of_ble_eq_true rfl) only [go_sem, ↓mwp_block, simprocAttr, hcut])
      exact hK _ _ ⟨_, rfl, imgA_open.2 ⟨A', c', rfl, h1, h2, S⟩⟩
end
end Go.Proofs.Ytnjjdpeglkiifaa.MX
