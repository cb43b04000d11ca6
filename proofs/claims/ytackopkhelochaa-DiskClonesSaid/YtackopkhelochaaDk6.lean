/- The disk: Rename, Restart. -/
import Derived.Test.YtackopkhelochaaDk5
namespace Go.Proofs.Ytackopkhelochaa.MX
open Go Go.Proofs
set_option linter.unusedSimpArgs false
set_option linter.unusedVariables false

theorem draw_any {P : Program} {Q : MExit → Env → Heap → Prop} {ρ : Env} {h : Heap} {l : List MOper} {s : Sch} {t1 : Tag l} {t2 : Tag s} {t3 : Tag Q} {t4 : Tag ρ} {t5 : Tag h} (S : Heap → Prop) (hS : S h) (hw : schT P S l (Q .normal) s ρ h) : drawT P l s Q ρ h t1 t2 t3 t4 t5 :=
  ⟨S, hS, hw⟩
theorem readT_self {h : Heap} {F : Heap → Option Value} {v : Value} (hS : F h = some v) {K : Value → Prop} {t : Tag K} : readT (fun h' => F h' = some v) F K t = K v := by
  apply propext
  constructor
  · rintro ⟨u, h1, h2⟩
    rw [h1 h hS] at hS
    cases hS
    exact h2
  · intro hk
    exact ⟨v, fun _ e => e, hk⟩
theorem chk_any {A B : Prop} (a : A) (b : B) : chkT A B := ⟨a, b⟩
theorem slot_move {h0 h : Heap} {l : List HP} {X : HP} {zs : List Slot} {a b : Nat} (hab : a ≠ b) (ha : a < zs.length) (hb : b < zs.length) (S : St h0 h (X :: (zs.map slotA ++ l))) :
    St h0 h (X :: (((zs.set b zs[a]).set a none).map slotA ++ l)) := by
  have S1 := slot_pick ha S
  have S2 : St h0 h (slotA none :: X :: ((zs.take a ++ zs.drop (a + 1)).map slotA ++ (slotA zs[a] :: l))) := St.emp.2 (S1.perm (by
    refine (List.Perm.swap _ _ _).trans (List.Perm.cons X ?_)
    exact List.perm_middle.symm))
  have S3 := slot_put ha S2
  have hb' : b < (zs.set a none).length := by simpa using hb
  have S4 := (slot_pick hb' S3).tl
  have S5 : St h0 h (slotA zs[a] :: X :: (((zs.set a none).take b ++ (zs.set a none).drop (b + 1)).map slotA ++ l)) := S4.perm (by
    refine List.Perm.trans (List.Perm.cons X List.perm_middle) (List.Perm.swap _ _ _))
  have S6 := slot_put hb' S5
  rwa [List.set_comm _ _ hab] at S6

def renameD (D : Dk) (a b : Int) : Dk × Int :=
  if askE D a ≠ 0 then (D, askE D a)
  else if askE D b ≠ 0 then (D, askE D b)
  else if (fileOf D a).isNone then (D, 7)
  else if a = b ∨ ((fileOf D a).getD ⟨[], 0⟩).safe < ((fileOf D a).getD ⟨[], 0⟩).bs.length then (D, 1)
  else if D.fuse = 0 then ({ D with lost := true }, 6)
  else ({ D with fs := (D.fs.set b.toNat (fileOf D a)).set a.toNat none, fuse := burnF D.fuse }, 0)
set_option maxHeartbeats 2000000 in
theorem Rename_ok (a b : Int) {h0 h : Heap} {l : List HP} {d : Nat} {D : Dk} (S : St h0 h (diskA d D :: l)) (ok : D.ok) :
    CallsH Try.prog 78 [.pointer (some ⟨d, 0, none⟩), .int .i64 a, .int .i64 b] h fun v h' => v = .int .i64 (renameD D a b).2 ∧ St h0 h' (diskA d (renameD D a b).1 :: l) := by
  (refine enterK c_disk_Disk_Rename (Nat.le_of_ble_eq_true rfl) fun K hK => ?_; (try simp (maxSteps := 1000000) (disch := first | omega | assumption | exact Nat.le_of_ble_eq_true rfl) only [go_sem, ↓mwp_block, simprocAttr, ir_disk_Disk_Rename]))
  refine call_intro (ask_ok a S) ?_
  rintro _ _ ⟨rfl, rfl⟩
  by_cases ha : askE D a = 0
  · obtain ⟨hlo, ha1, ha2⟩ := ask_in ha
    (try simp (maxSteps := 1000000) (disch := first | omega | assumption | exact Nat.le_of_ble_eq_true rfl) only [go_sem, ↓mwp_block, simprocAttr, ha])
    refine call_intro (ask_ok b S) ?_
    rintro _ _ ⟨rfl, rfl⟩
    by_cases hb : askE D b = 0
    · obtain ⟨_, hb1, hb2⟩ := ask_in hb
      have S0 := S
      obtain ⟨zs, hz, h8, S⟩ := diskA_open.1 S
      have hlt : a.toNat < zs.length := by omega
      have hltb : b.toNat < zs.length := by omega
      have hfz := fileOf_at hz ⟨ha1, ha2⟩ hlt
      have hc := fun fu lo => dcells_at (cap := D.cap) (fuse := fu) (lost := lo) hlt
      have hmv := fun (h : Heap) (X : HP) (hab : a.toNat ≠ b.toNat) (S : St h0 h (X :: (zs.map slotA ++ l))) => slot_move hab hlt hltb S
      have Sp := slot_pick hlt S
      generalize hzz : zs[a.toNat] = z at hfz hc hmv Sp
      ((try clear F); have F := S.all; (try simp only [all_cons, all_nil, says_cell, and_true] at F))
      cases z with
      | none =>
        (try simp (maxSteps := 1000000) (disch := first | omega | assumption | exact Nat.le_of_ble_eq_true rfl) only [go_sem, ↓mwp_block, simprocAttr, hb, F, hc, Nat.mul_one, ptrOf])
        refine hK _ _ ?_
        have hn : (fileOf D a).isNone = true := by rw [hfz]; rfl
        simp only [renameD, ha, hb, ne_eq, not_true_eq_false, if_false, if_pos hn]
        exact ⟨trivial, S0⟩
      | some z =>
        obtain ⟨p, f⟩ := z
        have hfo : fileOf D a = some f := hfz
        obtain ⟨s, Sp⟩ := fileA_open.1 Sp
        obtain ⟨B, e, rfl⟩ := Sp.p1.sl
        have F := Sp.all
        simp only [all_cons, all_nil, says_cell, and_true] at F
        have hn : ¬ (fileOf D a).isNone = true := by rw [hfo]; simp
        (try simp (maxSteps := 1000000) (disch := first | omega | assumption | exact Nat.le_of_ble_eq_true rfl) only [go_sem, ↓mwp_block, simprocAttr, hb, F, hc, Nat.mul_one, ptrOf])
        refine draw_eq ?_
        by_cases hab : a = b
        · (try simp (maxSteps := 1000000) (disch := first | omega | assumption | exact Nat.le_of_ble_eq_true rfl) only [go_sem, ↓mwp_block, simprocAttr, F, hc, Nat.mul_one, ptrOf])
          refine hK _ _ ?_
          simp only [renameD, ha, hb, ne_eq, not_true_eq_false, if_false, hfo, Option.isNone_some, Bool.false_eq_true, Option.getD_some, if_pos (Or.inl hab : a = b ∨ f.safe < f.bs.length)]
          exact ⟨trivial, S0⟩
        · by_cases hsf : f.safe < f.bs.length
          · (try simp (maxSteps := 1000000) (disch := first | omega | assumption | exact Nat.le_of_ble_eq_true rfl) only [go_sem, ↓mwp_block, simprocAttr, F, hc, Nat.mul_one, ptrOf])
            refine hK _ _ ?_
            simp only [renameD, ha, hb, ne_eq, not_true_eq_false, if_false, hfo, Option.isNone_some, Bool.false_eq_true, Option.getD_some, if_pos (Or.inr hsf : a = b ∨ f.safe < f.bs.length)]
            exact ⟨trivial, S0⟩
          · have hno : ¬ (a = b ∨ f.safe < f.bs.length) := by omega
            (try simp (maxSteps := 1000000) (disch := first | omega | assumption | exact Nat.le_of_ble_eq_true rfl) only [go_sem, ↓mwp_block, simprocAttr, F, hc, Nat.mul_one, ptrOf])
            refine call_intro (burn_ok S h8 ok.fuse) ?_
            rintro _ h (⟨hz0, rfl, S⟩ | ⟨hz0, rfl, S⟩)
            · (try simp (maxSteps := 1000000) (disch := first | omega | assumption | exact Nat.le_of_ble_eq_true rfl) only [go_sem, ↓mwp_block, simprocAttr])
              refine hK _ _ ?_
              simp only [renameD, ha, hb, ne_eq, not_true_eq_false, if_false, hfo, Option.isNone_some, Bool.false_eq_true, Option.getD_some, if_neg hno, if_pos hz0]
              exact ⟨trivial, diskA_open.2 ⟨zs, hz, h8, S⟩⟩
            · have F := S.all
              simp only [all_cons, says_cell] at F
              have hrd : rd1 h (.pointer (some ⟨d, 1 + a.toNat, none⟩)) = some (.pointer (some ⟨p, 0, none⟩)) := by rw [F.1.2.1, hc]; rfl
              have rx : ∀ K t, readT (fun h' => rd1 h' (.pointer (some ⟨d, 1 + a.toNat, none⟩)) = some (.pointer (some ⟨p, 0, none⟩))) (fun h' => rd1 h' (.pointer (some ⟨d, 1 + a.toNat, none⟩))) K t = K (.pointer (some ⟨p, 0, none⟩)) := fun K t => readT_self hrd
              have hab' : a.toNat ≠ b.toNat := by omega
              (try simp (maxSteps := 1000000) (disch := first | omega | assumption | exact Nat.le_of_ble_eq_true rfl) only [go_sem, ↓mwp_block, simprocAttr])
              refine draw_any (fun h' => rd1 h' (.pointer (some ⟨d, 1 + a.toNat, none⟩)) = some (.pointer (some ⟨p, 0, none⟩))) hrd ?_
              (try simp (maxSteps := 1000000) (disch := first | omega | assumption | exact Nat.le_of_ble_eq_true rfl) only [go_sem, ↓mwp_block, simprocAttr, Nat.mul_one, rx])
              refine st_store S rfl rfl (by rw [dcells_len h8]; omega) ?_
              clear S F
              intro h S
              rw [show [Value.pointer (some ⟨p, 0, none⟩)] = [ptrOf (some (p, f))] from rfl, dcells_setP hltb] at S
              have F := S.all
              simp only [all_cons, says_cell] at F
              refine chk_any ?_ ?_
              · rw [F.1.2.1, dcells_at (by simpa using hlt), List.getElem_set_ne (Ne.symm hab'), hzz]
                rfl
              · (try simp (maxSteps := 1000000) (disch := first | omega | assumption | exact Nat.le_of_ble_eq_true rfl) only [go_sem, ↓mwp_block, simprocAttr, Nat.mul_one])
                refine st_store S rfl rfl (by rw [dcells_len (by simpa using h8)]; omega) ?_
                clear S F
                intro h S
                rw [show [Value.pointer none] = [ptrOf none] from rfl, dcells_setP (by simpa using hlt)] at S
                (try simp (maxSteps := 1000000) (disch := first | omega | assumption | exact Nat.le_of_ble_eq_true rfl) only [go_sem, ↓mwp_block, simprocAttr])
                refine hK _ _ ?_
                simp only [renameD, ha, hb, ne_eq, not_true_eq_false, if_false, hfo, Option.isNone_some, Bool.false_eq_true, Option.getD_some, if_neg hno, if_neg hz0]
                refine ⟨trivial, diskA_open.2 ⟨(zs.set b.toNat (some (p, f))).set a.toNat none, ?_, by simpa using h8, hmv _ _ hab' S⟩⟩
                simp only [List.map_set, hz]
                rfl
    · (try simp (maxSteps := 1000000) (disch := first | omega | assumption | exact Nat.le_of_ble_eq_true rfl) only [go_sem, ↓mwp_block, simprocAttr, hb])
      refine hK _ _ ?_
      simp only [renameD, ne_eq, ha, hb, not_false_eq_true, not_true_eq_false, if_true, if_false]
      exact ⟨trivial, S⟩
  · (try simp (maxSteps := 1000000) (disch := first | omega | assumption | exact Nat.le_of_ble_eq_true rfl) only [go_sem, ↓mwp_block, simprocAttr])
    refine hK _ _ ?_
    simp only [renameD, ne_eq, ha, not_false_eq_true, if_true]
    exact ⟨trivial, S⟩
end Go.Proofs.Ytackopkhelochaa.MX
