/- Policies: which are right, by the program and by the document. -/
import Derived.Test.YtnjjdpeglkiifaaCd1
namespace Go.Proofs.Ytnjjdpeglkiifaa.MX
open Go Go.Proofs
set_option linter.unusedSimpArgs false
set_option linter.unusedVariables false

/-- A policy's cells. -/
structure Pol where
  w : Int
  fin : Bool
  exc : Bool
  cre : Bool
  f0 : Int
  f1 : Int
  f2 : Int
  f3 : Int
  s0 : Int
  t0 : Int
  s1 : Int
  t1 : Int
  s2 : Int
  t2 : Int
  s3 : Int
  t3 : Int
  deriving DecidableEq, Inhabited
def Pol.enc (p : Pol) : List Value := [.int .i64 p.w, .bool p.fin, .bool p.exc, .bool p.cre, .int .i64 p.f0, .int .i64 p.f1, .int .i64 p.f2, .int .i64 p.f3, .int .i64 p.s0, .int .i64 p.t0, .int .i64 p.s1, .int .i64 p.t1, .int .i64 p.s2, .int .i64 p.t2, .int .i64 p.s3, .int .i64 p.t3]
def Pol.zero : Pol := ⟨0, false, false, false, 0, 0, 0, 0, 0, 0, 0, 0, 0, 0, 0, 0⟩
theorem Pol.enc_len (p : Pol) : p.enc.length = 16 := rfl
theorem Pol.enc_plain (p : Pol) : plainCells p.enc = true := rfl
def okPts (n : Int) : Prop := 0 ≤ n ∧ n ≤ 10000
def okGrade (s t : Int) : Prop := okPts s ∧ (t = 0 ∧ s = 0 ∨ 3 ≤ t ∧ t ≤ 5)
def Pol.right (p : Pol) : Prop := (okPts p.f0 ∧ okPts p.f1 ∧ okPts p.f2 ∧ okPts p.f3) ∧ (okGrade p.s0 p.t0 ∧ okGrade p.s1 p.t1 ∧ okGrade p.s2 p.t2 ∧ okGrade p.s3 p.t3) ∧ 0 ≤ p.w ∧ p.w ≤ 1000

theorem cond_decn {p : Prop} {X Y : Prop} {s : Tag X} {t : Tag Y} (hx : ¬ p → X) (hy : p → Y) : condT (.bool (!dcd p)) X Y s t := by
  by_cases h : p
  · rw [dcd_true h]; simp only [condT, condW, Bool.not_true, Bool.false_eq_true, if_false]; exact hy h
  · rw [dcd_false h]; simp only [condT, condW, Bool.not_false, if_true]; exact hx h

def RightT (l : List Pol) : Prop := l.length ≤ 16 ∧ ∀ p ∈ l, p.right
end Go.Proofs.Ytnjjdpeglkiifaa.MX
