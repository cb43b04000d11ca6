/- A table's bytes, as the program writes them. -/
import Derived.Test.YtnjjdpeglkiifaaTb1
namespace Go.Proofs.Ytnjjdpeglkiifaa.MX
open Go Go.Proofs
set_option linter.unusedSimpArgs false
set_option linter.unusedVariables false

def flagsOf (p : Pol) : Int := (if p.fin then 1 else 0) + (if p.exc then 2 else 0) + (if p.cre then 4 else 0)
theorem fit1 {v : Int} {bs : List UInt8} (h0 : 0 ≤ v) (h1 : v < 256) : putBs 1 v bs false = bs ++ le 1 v ∧ putBad 1 v false = false := by
  have : putBad 1 v false = false := by simp [putBad]; omega
  exact ⟨by simp [putBs, this], this⟩
theorem fit2 {v : Int} {bs : List UInt8} (h0 : 0 ≤ v) (h1 : v < 65536) : putBs 2 v bs false = bs ++ le 2 v ∧ putBad 2 v false = false := by
  have : putBad 2 v false = false := by simp [putBad]; omega
  exact ⟨by simp [putBs, this], this⟩
theorem fit4 {v : Int} {bs : List UInt8} (h0 : 0 ≤ v) (h1 : v < 4294967296) : putBs 4 v bs false = bs ++ le 4 v ∧ putBad 4 v false = false := by
  have : putBad 4 v false = false := by simp [putBad]; omega
  exact ⟨by simp [putBs, this], this⟩

def Pol.bytes (p : Pol) : List UInt8 := le 2 p.w ++ (le 1 (flagsOf p) ++ (le 2 p.f0 ++ (le 2 p.f1 ++ (le 2 p.f2 ++ (le 2 p.f3 ++ (le 2 p.s0 ++ (le 1 p.t0 ++ (le 2 p.s1 ++ (le 1 p.t1 ++ (le 2 p.s2 ++ (le 1 p.t2 ++ (le 2 p.s3 ++ le 1 p.t3))))))))))))
theorem Pol.bytes_len (p : Pol) : p.bytes.length = 23 := by simp [Pol.bytes, le_length]
theorem bytes_len : ∀ l : List Pol, (l.flatMap Pol.bytes).length = l.length * 23
  | [] => rfl
  | p :: l => by simp [bytes_len l, Pol.bytes_len]; omega
def encT (l : List Pol) : List UInt8 := le 2 l.length ++ l.flatMap Pol.bytes
theorem flagsOf_lt (p : Pol) : 0 ≤ flagsOf p ∧ flagsOf p < 8 := by
  unfold flagsOf
  (repeat' split) <;> omega
theorem out_new {h0 h : Heap} {l : List HP} {o : Nat} (S : St h0 h (cellA o [.slice none 0 0, .bool false] 154 :: l)) : St h0 h (outA o [] false :: l) :=
  outA_open.2 ⟨_, (S.nilS).swap⟩

end Go.Proofs.Ytnjjdpeglkiifaa.MX
