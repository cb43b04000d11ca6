import Derived.Test.YtjagmebglhbdkaaGreatK05
namespace Go.Proofs.YtjagmebglhbdkaaGreat.MX
open Go Go.Proofs
set_option linter.unusedSimpArgs false
set_option linter.unusedVariables false
section
universe u
structure Tag {β : Sort u} (k : β) : Type where
def C7 {α : Type} (x : Option α) (K : α → Prop) (_ : Tag K) : Prop := N8 x K
def a0A (b : Bool) (X Y : Prop) (_ : Tag X) (_ : Tag Y) : Prop := M1 b X Y
def W7 (v : Value) (X Y : Prop) (_ : Tag X) (_ : Tag Y) : Prop := a0b v X Y
def O8 (n : Nat) (a : Value) (cs : List Value) (h : c9) (K : Value → c9 → Prop) (_ : Tag h) (_ : Tag K) : Prop := cs.length = n ∧ wrW h a cs fun h' => K undef h'
def a6o (T sz bytes : Nat) (z : List Value) (x y : Value) (h : c9) (K : Value → c9 → Prop) (_ : Tag h) (_ : Tag K) : Prop := b0g T sz bytes z x y h K
def b8T (sz : Nat) (x y : Value) (h : c9) (K : Value → c9 → Prop) (_ : Tag h) (_ : Tag K) : Prop := a8C sz x y h K
def s2bT (T : Nat) (x : Value) (h : c9) (K : Value → c9 → Prop) (_ : Tag h) (_ : Tag K) : Prop := c0g T x h K
def mkT (T bytes : Nat) (z : List Value) (l c : Value) (h : c9) (K : Value → c9 → Prop) (_ : Tag h) (_ : Tag K) : Prop := mkW T bytes z l c h K
def a8R (P : Program) (f : FuncId) (args : List Value) (h : c9) (K : Value → c9 → Prop) (_ : Tag h) (_ : Tag K) : Prop := d8 P f args h K
def a3s (P : Program) (x : Value) (args : List Value) (h : c9) (K : Value → c9 → Prop) (_ : Tag h) (_ : Tag K) : Prop := a3q P x args h K
def c2U (P : Program) (o : Oper) (ρ : Env) (h : c9) (K : Value → c9 → Prop) (_ : Tag ρ) (_ : Tag h) (_ : Tag K) : Prop := Eff.wp P ρ h K (.any o)
def a7i (P : Program) (c : j4) (Q : C5 → Env → c9 → Prop) (ρ : Env) (h : c9) (_ : Tag c) (_ : Tag Q) (_ : Tag ρ) (_ : Tag h) : Prop := mwp P (.loop c) Q ρ h
def a8V (P : Program) (l : List j0) (s : Sch) (Q : C5 → Env → c9 → Prop) (ρ : Env) (h : c9) (_ : Tag l) (_ : Tag s) (_ : Tag Q) (_ : Tag ρ) (_ : Tag h) : Prop := mwp P (.draw l s) Q ρ h
section
variable {P : Program} {Q : C5 → Env → c9 → Prop} {ρ : Env} {h : c9} {K : Value → c9 → Prop} {C : Env → c9 → Prop}
theorem b7P : mwp P .skip Q ρ h = Q .normal ρ h := (_root_.id rfl)
theorem c0V {l : List j0} : mwp P (.ops l) Q ρ h = N4 P l (Q .normal) ρ h := (_root_.id rfl)
theorem c1i {a b : j4} : mwp P (.seq a b) Q ρ h = mwp P a (T8 (mwp P b Q) Q) ρ h := (_root_.id rfl)
theorem b7O {c : Opd} {x y : j4} : mwp P (.cond c x y) Q ρ h = W7 (ev ρ c) (mwp P x Q ρ h) (mwp P y Q ρ h) ⟨⟩ ⟨⟩ := (_root_.id rfl)
theorem b7S {c : j4} : mwp P (.loop c) Q ρ h = a7i P c Q ρ h ⟨⟩ ⟨⟩ ⟨⟩ ⟨⟩ := (_root_.id rfl)
theorem b9N {l : List j0} {s : Sch} : mwp P (.draw l s) Q ρ h = a8V P l s Q ρ h ⟨⟩ ⟨⟩ ⟨⟩ ⟨⟩ ⟨⟩ := (_root_.id rfl)
theorem wBk {id : Nat} {c : j4} : mwp P (.block id c) Q ρ h = mwp P c (a2z id Q) ρ h := (_root_.id rfl)
theorem b9E {id : Nat} : mwp P (.exit id) Q ρ h = Q (.exit id) ρ h := (_root_.id rfl)
theorem c1a : mwp P .ret Q ρ h = Q .ret ρ h := (_root_.id rfl)
theorem b1z {k : Env → c9 → Prop} : T8 k Q .normal = k := (_root_.id rfl)
theorem b7B {k : Env → c9 → Prop} : T8 k Q .ret = Q .ret := (_root_.id rfl)
theorem a5b {k : Env → c9 → Prop} {id : Nat} : T8 k Q (.exit id) = Q (.exit id) := (_root_.id rfl)
theorem b1N {id : Nat} : a2z id Q .normal = Q .normal := (_root_.id rfl)
theorem b8N {id : Nat} : a2z id Q .ret = Q .ret := (_root_.id rfl)
theorem b4W {id i : Nat} : a2z id Q (.exit i) = if i = id then Q .normal else Q (.exit i) := by
 funext ρ h; simp only [a2z]; split <;> rfl
theorem b5w : N4 P [] C ρ h = C ρ h := (_root_.id rfl)
theorem c1k {d : Option Nat} {x : j6} {os : List j0} : N4 P (⟨d, .p x, none⟩ :: os) C ρ h = C7 (x.val ρ) (fun v => N4 P os C (M5 ρ d v) h) ⟨⟩ := by
 simp [N4, M1, O7, MOp.wp, C7]
theorem c0k {d : Option Nat} {x : a2e} {os : List j0} : N4 P (⟨d, .r x, none⟩ :: os) C ρ h = C7 (x.val ρ h) (fun v => N4 P os C (M5 ρ d v) h) ⟨⟩ := by
 simp [N4, M1, O7, MOp.wp, C7]
theorem c0m {d : Option Nat} {x : Eff} {os : List j0} : N4 P (⟨d, .e x, none⟩ :: os) C ρ h = x.wp P ρ h fun v h' => N4 P os C (M5 ρ d v) h' := by
 simp [N4, M1, O7, MOp.wp]
theorem c0q {d : Option Nat} {x : MOp} {g : Nat × Bool} {os : List j0} : N4 P (⟨d, x, some g⟩ :: os) C ρ h = a0A (O7 ρ (some g)) (x.wp P ρ h fun v h' => N4 P os C (M5 ρ d v) h') (N4 P os C (M5 ρ d undef) h) ⟨⟩ ⟨⟩ := (_root_.id rfl)
theorem wp_p {x : j6} : MOp.wp P ρ h K (.p x) = C7 (x.val ρ) (fun v => K v h) ⟨⟩ := (_root_.id rfl)
theorem wp_r {x : a2e} : MOp.wp P ρ h K (.r x) = C7 (x.val ρ h) (fun v => K v h) ⟨⟩ := (_root_.id rfl)
theorem wp_e {x : Eff} : MOp.wp P ρ h K (.e x) = x.wp P ρ h K := (_root_.id rfl)
def b3B (v : Value) (b : Bool) : Bool := match v with | .bool c => c == b | _ => false
theorem b3e {s : Nat} {b : Bool} : O7 ρ (some (s, b)) = b3B (ρ s) b := (_root_.id rfl)
theorem b2N {c : Bool} : b3B (.bool c) true = c := by cases c <;> rfl
theorem b1I {c : Bool} : b3B (.bool c) false = !c := by cases c <;> rfl
theorem b1K {b : Bool} : b3B undef b = false := (_root_.id rfl)
theorem ev_t {n : Nat} : ev ρ (.t n) = ρ n := (_root_.id rfl)
theorem ev_c {v : Value} : ev ρ (.c v) = v := (_root_.id rfl)
theorem c1M {d t : Nat} {v : Value} : upd ρ d v t = if t = d then v else ρ t := (_root_.id rfl)
theorem b3w {X Y : Prop} {s : Tag X} {t : Tag Y} : W7 (.bool true) X Y s t = X := by simp [W7, a0b]
theorem b1t {X Y : Prop} {s : Tag X} {t : Tag Y} : W7 (.bool false) X Y s t = Y := by simp [W7, a0b]
theorem b2g {X Y : Prop} {s : Tag X} {t : Tag Y} : a0A true X Y s t = X := by simp [a0A, M1]
theorem b2a {X Y : Prop} {s : Tag X} {t : Tag Y} : a0A false X Y s t = Y := by simp [a0A, M1]
theorem b2p {α : Type} {v : α} {K : α → Prop} {t : Tag K} : C7 (some v) K t = K v := (_root_.id rfl)
theorem b8S {v : Value} {vs : List Value} : a0e (v :: vs) 0 = v := (_root_.id rfl)
theorem b7r {a v : Value} {vs : List Value} : a0e (a :: v :: vs) 1 = v := (_root_.id rfl)
theorem b6Y {a b v : Value} {vs : List Value} : a0e (a :: b :: v :: vs) 2 = v := (_root_.id rfl)
theorem b9o {a b c v : Value} {vs : List Value} : a0e (a :: b :: c :: v :: vs) 3 = v := (_root_.id rfl)
theorem b8U {a b c d v : Value} {vs : List Value} : a0e (a :: b :: c :: d :: v :: vs) 4 = v := (_root_.id rfl)
theorem b6X {a b c d e v : Value} {vs : List Value} : a0e (a :: b :: c :: d :: e :: v :: vs) 5 = v := (_root_.id rfl)
-- pure operations
theorem c1O {x : Opd} : j6.val ρ (.mov x) = some (ev ρ x) := (_root_.id rfl)
theorem b7C {c a b : Opd} : j6.val ρ (.pick c a b) = b0E (ev ρ c) (ev ρ a) (ev ρ b) := (_root_.id rfl)
theorem b5k {z : List Value} {ps : List (Nat × Nat × Opd)} : j6.val ρ (.build z ps) = i0 (a0m z (ps.map fun p => (p.1, p.2.1, ev ρ p.2.2))) fun cs => some (.agg cs.toArray) := (_root_.id rfl)
theorem b2k {x : Opd} : j6.val ρ (.nilchk x) = b8x (ev ρ x) := (_root_.id rfl)
theorem c0L {op : BinOp} {x y : Opd} : j6.val ρ (.bin op x y) = B5 op (ev ρ x) (ev ρ y) := (_root_.id rfl)
theorem c3w {k : EK} {n : Bool} {x y : Opd} : j6.val ρ (.eq k n x y) = i0 (eqV k (ev ρ x) (ev ρ y)) fun b => some (.bool (if n then !b else b)) := (_root_.id rfl)
theorem c2M {op : UnOp} {x : Opd} : j6.val ρ (.un op x) = unV op (ev ρ x) := (_root_.id rfl)
theorem b9H {k : IntKind} {x : Opd} : j6.val ρ (.conv k x) = b1E k (ev ρ x) := (_root_.id rfl)
theorem b2G {x : Opd} {n : Nat} : j6.val ρ (.addOff x n) = a2Q (ev ρ x) n := (_root_.id rfl)
theorem b7m {sz : Nat} {x i : Opd} : j6.val ρ (.idxS sz x i) = a8w sz (ev ρ x) (ev ρ i) := (_root_.id rfl)
theorem b7X {ln sz : Nat} {x i : Opd} : j6.val ρ (.idxA ln sz x i) = a8W ln sz (ev ρ x) (ev ρ i) := (_root_.id rfl)
theorem b7U {sz : Nat} {x : Opd} {lo hi mx : Option Opd} : j6.val ρ (.cutS sz x lo hi mx) = a4y sz (ev ρ x) (lo.map (ev ρ)) (hi.map (ev ρ)) (mx.map (ev ρ)) := (_root_.id rfl)
theorem b9G {n sz : Nat} {x : Opd} {lo hi mx : Option Opd} : j6.val ρ (.cutA n sz x lo hi mx) = a1s n sz (ev ρ x) (lo.map (ev ρ)) (hi.map (ev ρ)) (mx.map (ev ρ)) := (_root_.id rfl)
theorem b9e {x : Opd} {lo hi : Option Opd} : j6.val ρ (.cutT x lo hi) = a6h (ev ρ x) (lo.map (ev ρ)) (hi.map (ev ρ)) := (_root_.id rfl)
theorem c1j {s : Bool} {x : Opd} : j6.val ρ (.len s x) = a9G s (ev ρ x) := (_root_.id rfl)
theorem b7y {n : Nat} : j6.val ρ (.lenA n) = some (.int .i64 n) := (_root_.id rfl)
theorem c1m {x : Opd} : j6.val ρ (.cap x) = c0e (ev ρ x) := (_root_.id rfl)
theorem c0t {x : Opd} {ys : List Opd} : j6.val ρ (.min x ys) = a3j b7V (ev ρ x) (ys.map (ev ρ)) := (_root_.id rfl)
theorem c2f {x : Opd} {ys : List Opd} : j6.val ρ (.max x ys) = a3j b8D (ev ρ x) (ys.map (ev ρ)) := (_root_.id rfl)
theorem b5W {off n : Nat} {g : Bool} {x : Opd} : j6.val ρ (.field off n g x) = a2c off n g (ev ρ x) := (_root_.id rfl)
theorem b8C {ln sz : Nat} {g : Bool} {x i : Opd} : j6.val ρ (.idxG ln sz g x i) = a5L ln sz g (ev ρ x) (ev ρ i) := (_root_.id rfl)
theorem b9t {x i : Opd} : j6.val ρ (.idxT x i) = a7L (ev ρ x) (ev ρ i) := (_root_.id rfl)
theorem b9w {x : Opd} {i : Nat} : j6.val ρ (.extr x i) = a8Y (ev ρ x) i := (_root_.id rfl)
theorem b7R {f : Fn} {a b : List Opd} : j6.val ρ (.func f a b) = some (.func f (a.map (ev ρ)).toArray (b.map (ev ρ)).toArray) := (_root_.id rfl)
theorem b5p {a : Opd} : a2e.val ρ h (.load1 a) = rd1 h (ev ρ a) := (_root_.id rfl)
theorem b6G {n : Nat} {a : Opd} : a2e.val ρ h (.loadN n a) = i0 (rdA h (ev ρ a) n) fun cs => some (.agg cs.toArray) := (_root_.id rfl)
-- values
noncomputable def dcd (p : Prop) : Bool := @decide p (Classical.propDecidable p)
theorem Y0 (p : Prop) [i : Decidable p] : dcd p = decide p := by
 unfold dcd
 exact decide_eq_decide.2 Iff.rfl
theorem b7N : dcd True = true := by rw [Y0]; rfl
theorem b5K : dcd False = false := by rw [Y0]; rfl
theorem n9 {p : Prop} (h : dcd p = true) : p := @of_decide_eq_true p (Classical.propDecidable p) h
theorem x7 {p : Prop} (h : dcd p = false) : ¬ p := @of_decide_eq_false p (Classical.propDecidable p) h
theorem dT {p : Prop} (h : p) : dcd p = true := @decide_eq_true p (Classical.propDecidable p) h
theorem dF {p : Prop} (h : ¬ p) : dcd p = false := @decide_eq_false p (Classical.propDecidable p) h
theorem b0f {k : IntKind} {a b : Int} : B5 .add (.int k a) (.int k b) = some (.int k (k.wrap (a + b))) := by simp [B5, K6]
theorem a9M {k : IntKind} {a b : Int} : B5 .sub (.int k a) (.int k b) = some (.int k (k.wrap (a - b))) := by simp [B5, K6]
theorem b0c {k : IntKind} {a b : Int} : B5 .mul (.int k a) (.int k b) = some (.int k (k.wrap (a * b))) := by simp [B5, K6]
theorem b3Z {k : IntKind} {a b : Int} (hb : b ≠ 0) : B5 .quo (.int k a) (.int k b) = some (.int k (k.wrap (a.tdiv b))) := by simp [B5, K6, hb]
theorem b4d {k : IntKind} {a b : Int} (hb : b ≠ 0) : B5 .rem (.int k a) (.int k b) = some (.int k (a.tmod b)) := by simp [B5, K6, hb]
theorem a9r {k : IntKind} {a b : Int} : B5 .and (.int k a) (.int k b) = some (.int k (k.wrap (BitVec.ofInt k.bits a &&& BitVec.ofInt k.bits b).toNat)) := by simp [B5, K6]
theorem b6N {k : IntKind} {a b : Int} : B5 .or (.int k a) (.int k b) = some (.int k (k.wrap (BitVec.ofInt k.bits a ||| BitVec.ofInt k.bits b).toNat)) := by simp [B5, K6]
theorem c1J {k : IntKind} {a b : Int} : B5 .xor (.int k a) (.int k b) = some (.int k (k.wrap (BitVec.ofInt k.bits a ^^^ BitVec.ofInt k.bits b).toNat)) := by simp [B5, K6]
theorem c0I {k : IntKind} {a b : Int} : B5 .eql (.int k a) (.int k b) = some (.bool (dcd (a = b))) := by simp [B5, K6, Y0, bne]; rfl
theorem c1A {k : IntKind} {a b : Int} : B5 .neq (.int k a) (.int k b) = some (.bool (!dcd (a = b))) := by simp [B5, K6, Y0, bne]; rfl
theorem c2h {k : IntKind} {a b : Int} : B5 .lss (.int k a) (.int k b) = some (.bool (dcd (a < b))) := by simp [B5, K6, Y0, bne]
theorem c1L {k : IntKind} {a b : Int} : B5 .leq (.int k a) (.int k b) = some (.bool (dcd (a ≤ b))) := by simp [B5, K6, Y0, bne]
theorem c0O {k : IntKind} {a b : Int} : B5 .gtr (.int k a) (.int k b) = some (.bool (dcd (b < a))) := by simp [B5, K6, Y0, bne]
theorem c0W {k : IntKind} {a b : Int} : B5 .geq (.int k a) (.int k b) = some (.bool (dcd (b ≤ a))) := by simp [B5, K6, Y0, bne]
theorem b3A {k k' : IntKind} {a b : Int} (hb : 0 ≤ b) : B5 .shl (.int k a) (.int k' b) = some (.int k (k.wrap (a * 2 ^ (min b.toNat k.bits)))) := by simp [B5, Int.not_lt.2 hb]
theorem b0a {k k' : IntKind} {a b : Int} (hb : 0 ≤ b) : B5 .shr (.int k a) (.int k' b) = some (.int k (a.fdiv (2 ^ (min b.toNat k.bits)))) := by simp [B5, Int.not_lt.2 hb]
theorem c1o {a b : Bool} : eqV .b (.bool a) (.bool b) = some (a == b) := (_root_.id rfl)
theorem c4v {ks : List CK} {xs ys : List Value} : b5a ks (.agg xs.toArray) (.agg ys.toArray) = eqK ks xs ys := by simp [b5a]
theorem c0D : eqK [] [] [] = some true := rfl
theorem c4b {ks : List CK} {k : IntKind} {a b : Int} {xs ys : List Value} : eqK (.i :: ks) (.int k a :: xs) (.int k b :: ys) = i0 (eqK ks xs ys) fun c => some (dcd (a = b) && c) := by
 simp only [eqK, a0N, if_true, i0, Y0]; rfl
theorem c4i {ks : List CK} {a b : Bool} {xs ys : List Value} : eqK (.b :: ks) (.bool a :: xs) (.bool b :: ys) = i0 (eqK ks xs ys) fun c => some ((a == b) && c) := by
 simp only [eqK, a0N, i0]
theorem c1X {ks : List CK} {n : Bool} {x y : Opd} : j6.val ρ (.eqA ks n x y) = i0 (b5a ks (ev ρ x) (ev ρ y)) fun b => some (.bool (if n then !b else b)) := (_root_.id rfl)
theorem c4t {a : Option Addr} : eqV .p (.pointer a) (.pointer none) = some a.isNone := by cases a <;> rfl
theorem c4s {a : Option Addr} : eqV .p (.pointer none) (.pointer a) = some a.isNone := (_root_.id rfl)
theorem c4d {a : Option Addr} {n c m d : Nat} : eqV .s (.slice a n c) (.slice none m d) = some a.isNone := by cases a <;> rfl
theorem c3C {k : IntKind} {a : Int} : unV .neg (.int k a) = some (.int k (k.wrap (0 - a))) := (_root_.id rfl)
theorem c3e {a : Bool} : unV .not (.bool a) = some (.bool (!a)) := (_root_.id rfl)
theorem b8q {k k' : IntKind} {a : Int} : b1E k (.int k' a) = some (.int k (k.wrap a)) := (_root_.id rfl)
theorem b6T {b off n : Nat} : a2Q (.pointer (some ⟨b, off, none⟩)) n = some (.pointer (some ⟨b, off + n, none⟩)) := by simp [a2Q, P7]
theorem c3o {sz b off n c : Nat} {k : IntKind} {i : Int} (h0 : 0 ≤ i) (h1 : i < n) : a8w sz (.slice (some ⟨b, off, none⟩) n c) (.int k i) = some (.pointer (some ⟨b, off + i.toNat * sz, none⟩)) := by simp [a8w, h0, h1, P7]
theorem c2C {ln sz b off : Nat} {k : IntKind} {i : Int} (h0 : 0 ≤ i) (h1 : i < ln) : a8W ln sz (.pointer (some ⟨b, off, none⟩)) (.int k i) = some (.pointer (some ⟨b, off + i.toNat * sz, none⟩)) := by simp [a8W, h0, h1, P7]
theorem c3X {s : ByteArray} : a9G true (.string s) = some (.int .i64 s.size) := (_root_.id rfl)
theorem c4p {a : Option Addr} {n c : Nat} : a9G false (.slice a n c) = some (.int .i64 n) := (_root_.id rfl)
theorem c3Y {a : Option Addr} {n c : Nat} : c0e (.slice a n c) = some (.int .i64 c) := (_root_.id rfl)
theorem c3Z {k k' : IntKind} {x y : Int} : b7V (.int k x) (.int k' y) = some (.int k (if y < x then y else x)) := (_root_.id rfl)
theorem c4g {k k' : IntKind} {x y : Int} : b8D (.int k x) (.int k' y) = some (.int k (if y > x then y else x)) := (_root_.id rfl)
theorem b8d {f : Value → Value → Option Value} {x : Value} : a3j f x [] = some x := (_root_.id rfl)
theorem b4X {f : Value → Value → Option Value} {x y : Value} {ys : List Value} : a3j f x (y :: ys) = i0 (f x y) fun z => a3j f z ys := (_root_.id rfl)
theorem c2K {c : Bool} {a b : Value} : b0E (.bool c) a b = some (if c then a else b) := (_root_.id rfl)
theorem c4n {a : Addr} : b8x (.pointer (some a)) = some (.pointer (some a)) := (_root_.id rfl)
theorem c3P {vs : List Value} {i : Nat} : a8Y (.tuple vs.toArray) i = vs[i]? := by simp [a8Y]
theorem c0p {off n : Nat} {l : List Value} : a2c off n false (.agg l.toArray) = l[off]? := by simp [a2c]
theorem c0u {off n : Nat} {l : List Value} : a2c off n true (.agg l.toArray) = some (.agg ((l.drop off).take n).toArray) := by
 have : (List.take (off + n - off) (List.drop off l)) = (l.drop off).take n := by congr 1; omega
 simp [a2c, this]
theorem c2N {ln sz : Nat} {l : List Value} {k : IntKind} {i : Int} (h0 : 0 ≤ i) (h1 : i < ln) : a5L ln sz false (.agg l.toArray) (.int k i) = l[i.toNat * sz]? := by simp [a5L, h0, h1]
theorem c3F {ln sz : Nat} {l : List Value} {k : IntKind} {i : Int} (h0 : 0 ≤ i) (h1 : i < ln) : a5L ln sz true (.agg l.toArray) (.int k i) = some (.agg ((l.drop (i.toNat * sz)).take sz).toArray) := by
 have : (List.take (i.toNat * sz + sz - i.toNat * sz) (List.drop (i.toNat * sz) l)) = (l.drop (i.toNat * sz)).take sz := by congr 1; omega
 simp [a5L, h0, h1, this]
theorem b9n {d : Nat} : bnd none d = some (d : Int) := (_root_.id rfl)
theorem b9K {k : IntKind} {i : Int} {d : Nat} : bnd (some (.int k i)) d = some i := (_root_.id rfl)
theorem b8n {sz : Nat} {a : Option Addr} {len cap : Nat} {lo hi mx : Option Value} : a4y sz (.slice a len cap) lo hi mx = i0 (bnd lo 0) fun l => i0 (bnd hi len) fun h => i0 (bnd mx cap) fun m => a1p a sz l h m cap := (_root_.id rfl)
theorem b9v {n sz : Nat} {a : Addr} {lo hi mx : Option Value} : a1s n sz (.pointer (some a)) lo hi mx = i0 (bnd lo 0) fun l => i0 (bnd hi n) fun h => i0 (bnd mx n) fun m => a1p (some a) sz l h m n := (_root_.id rfl)
theorem b9l {a : Option Addr} {sz : Nat} {l h m cap : Int} (c0 : 0 ≤ l) (c1 : l ≤ h) (c2 : h ≤ m) (c3 : m ≤ cap) : a1p a sz l h m cap = some (.slice (if m = l then a else a.map (·.add (l.toNat * sz))) (h - l).toNat (m - l).toNat) := by simp [a1p, c0, c1, c2, c3]
theorem c3W : ((0 : Nat) : Int) = 0 := (_root_.id rfl)
theorem b4P : bnd none 0 = some 0 := (_root_.id rfl)
theorem c4a {a : Option Addr} {sz : Nat} {h m cap : Int} (c1 : 0 ≤ h) (c2 : h ≤ m) (c3 : m ≤ cap) : a1p a sz 0 h m cap = some (.slice a h.toNat m.toNat) := by
 have e : (a.map fun x => x.add 0) = a := by cases a <;> simp [Addr.add]
 simp [a1p, c1, c2, c3, e]
theorem b9k {b off sz : Nat} {l h m cap : Int} (c0 : 0 ≤ l) (c1 : l ≤ h) (c2 : h ≤ m) (c3 : m ≤ cap) (hlt : l < m) : a1p (some ⟨b, off, none⟩) sz l h m cap = some (.slice (some ⟨b, off + l.toNat * sz, none⟩) (h - l).toNat (m - l).toNat) := by
 simp [a1p, c0, c1, c2, c3, P7, show ¬ (m = l) by omega]
theorem c0J {a : Option Addr} {sz : Nat} {l h m cap : Int} (c0 : 0 ≤ l) (c1 : l = h) (c2 : h = m) (c3 : m ≤ cap) : a1p a sz l h m cap = some (.slice a 0 0) := by
 subst c1 c2
 simp [a1p, c0, c3]
theorem b6t {l : List Value} : cellsOf (.agg l.toArray) = l := by simp [cellsOf, Value.cells]
theorem b5D {k : IntKind} {n : Int} : cellsOf (.int k n) = [.int k n] := (_root_.id rfl)
theorem b2Q {b : Bool} : cellsOf (.bool b) = [.bool b] := (_root_.id rfl)
theorem b5F {s : ByteArray} : cellsOf (.string s) = [.string s] := (_root_.id rfl)
theorem b5t {a : Option Addr} : cellsOf (.pointer a) = [.pointer a] := (_root_.id rfl)
theorem b8J {a : Option Addr} {n c : Nat} : cellsOf (.slice a n c) = [.slice a n c] := (_root_.id rfl)
theorem b8X {f : Fn} {a b : Array Value} : cellsOf (.func f a b) = [.func f a b] := (_root_.id rfl)
theorem b5H {a : Option Nat} : cellsOf (.map a) = [.map a] := (_root_.id rfl)
theorem b9Y {z : List Value} : a0m z [] = some z := (_root_.id rfl)
theorem b5B {z : List Value} {off size : Nat} {v : Value} {rest : List (Nat × Nat × Value)} : a0m z ((off, size, v) :: rest) = if (cellsOf v).length = size ∧ off + size ≤ z.length then a0m (u7 z off (cellsOf v)) rest else none := (_root_.id rfl)
theorem sN {c : List Value} {off : Nat} : u7 c off [] = c := (_root_.id rfl)
theorem sC {c : List Value} {off : Nat} {v : Value} {vs : List Value} : u7 c off (v :: vs) = u7 (c.set off v) (off + 1) vs := (_root_.id rfl)
theorem c0l {z : List Value} : m8 z 0 = [] := (_root_.id rfl)
theorem c2o {z : List Value} : m8 z 1 = z := by simp [m8]
-- results
theorem b6x : a1N ρ h [] = some [] := (_root_.id rfl)
theorem b2o {r : a3r} {rs : List a3r} : a1N ρ h (r :: rs) = i0 (b6J ρ h r) fun v => i0 (a1N ρ h rs) fun vs => some (v :: vs) := (_root_.id rfl)
theorem b8j {t : Nat} : b6J ρ h (.tmp t) = some (ρ t) := (_root_.id rfl)
theorem b9h {t n : Nat} : b6J ρ h (.cell t n false) = rd1 h (ρ t) := (_root_.id rfl)
theorem b7x {t n : Nat} : b6J ρ h (.cell t n true) = i0 (rdA h (ρ t) n) fun cs => some (.agg cs.toArray) := (_root_.id rfl)
theorem b1v {rs : List a3r} {R : Value → c9 → Prop} : b9d rs R .normal ρ h = C7 (a1N ρ h rs) (fun vs => R (a1Y vs) h) ⟨⟩ := (_root_.id rfl)
theorem b7a {rs : List a3r} {R : Value → c9 → Prop} : b9d rs R .ret ρ h = C7 (a1N ρ h rs) (fun vs => R (a1Y vs) h) ⟨⟩ := (_root_.id rfl)
theorem c0X {v : Value} : a1Y [v] = v := (_root_.id rfl)
theorem c0j {v u : Value} : a1Y [v, u] = .tuple #[v, u] := (_root_.id rfl)
theorem c2n {v u x : Value} : a1Y [v, u, x] = .tuple #[v, u, x] := (_root_.id rfl)
theorem c1l {v u x y : Value} : a1Y [v, u, x, y] = .tuple #[v, u, x, y] := (_root_.id rfl)
theorem c0s : a1Y [] = .tuple #[] := (_root_.id rfl)
-- effects
theorem eA {T : Nat} {z : List Value} : Eff.wp P ρ h K (.alloc T z) = K (.pointer (some ⟨h.size, 0, none⟩)) (h.push (.cells z.toArray T (0, 0))) := (_root_.id rfl)
theorem eB {T : Nat} {x : Opd} : Eff.wp P ρ h K (.box T x) = K (.pointer (some ⟨h.size, 0, none⟩)) (h.push (.cells (cellsOf (ev ρ x)).toArray T (0, 0))) := (_root_.id rfl)
theorem eS {T len : Nat} {z : List Value} {ps : List (Nat × Nat × Opd)} : Eff.wp P ρ h K (.bslice T len z ps) = C7 (a0m (m8 z len) (ps.map fun p => (p.1, p.2.1, ev ρ p.2.2))) (fun cs =>
   K (.slice (some ⟨h.size, 0, none⟩) len len) (h.push (.cells cs.toArray T (0, 0)))) ⟨⟩ := (_root_.id rfl)
theorem c2c {n : Nat} {a x : Opd} : Eff.wp P ρ h K (.store n a x) = O8 n (ev ρ a) (cellsOf (ev ρ x)) h K ⟨⟩ ⟨⟩ := (_root_.id rfl)
theorem b8k {T sz bytes : Nat} {z : List Value} {x y : Opd} : Eff.wp P ρ h K (.append T sz bytes z x y) = a6o T sz bytes z (ev ρ x) (ev ρ y) h K ⟨⟩ ⟨⟩ := (_root_.id rfl)
theorem c2G {sz : Nat} {x y : Opd} : Eff.wp P ρ h K (.copy sz x y) = b8T sz (ev ρ x) (ev ρ y) h K ⟨⟩ ⟨⟩ := (_root_.id rfl)
theorem c4k {T : Nat} {x : Opd} : Eff.wp P ρ h K (.s2b T x) = s2bT T (ev ρ x) h K ⟨⟩ ⟨⟩ := (_root_.id rfl)
theorem e_mk {T sz bytes : Nat} {z : List Value} {l c : Opd} : Eff.wp P ρ h K (.mkslice T sz bytes z l c) = mkT T bytes z (ev ρ l) (ev ρ c) h K ⟨⟩ ⟨⟩ := (_root_.id rfl)
def b2D (zero : List Value) (x : Value) (h : c9) (K : Value → c9 → Prop) (_ : Tag h) (_ : Tag K) : Prop := a4X zero x h K
theorem c1s {sz : Nat} {z : List Value} {x : Opd} : Eff.wp P ρ h K (.clear sz z x) = b2D z (ev ρ x) h K ⟨⟩ ⟨⟩ := (_root_.id rfl)
theorem c3R {f : FuncId} {args : List Opd} : Eff.wp P ρ h K (.call f args) = a8R P f (args.map (ev ρ)) h K ⟨⟩ ⟨⟩ := (_root_.id rfl)
theorem c2m {x : Opd} {args : List Opd} : Eff.wp P ρ h K (.callv x args) = a3s P (ev ρ x) (args.map (ev ρ)) h K ⟨⟩ ⟨⟩ := (_root_.id rfl)
theorem c3V {o : Oper} : Eff.wp P ρ h K (.any o) = c2U P o ρ h K ⟨⟩ ⟨⟩ ⟨⟩ := (_root_.id rfl)
theorem a8x {f : FuncId} {a b : List Value} {args : List Value} {s : Tag h} {t : Tag K} (hok : a3x P f = true) (hc : d8 P f (a ++ args ++ b) h K) : a3s P (.func (.func f) a.toArray b.toArray) args h K s t := by
 simp only [a3s, a3q]
 exact ⟨hok, by simpa using hc⟩
theorem cI {f : FuncId} {args : List Value} {s : Tag h} {t : Tag K} {R : Value → c9 → Prop} (hc : d8 P f args h R) (hk : ∀ v h', R v h' → K v h') : a8R P f args h K s t := hc.mono hk
-- stores
def b1k (x : Option (List Value × Nat × (Nat × Nat))) (K : List Value → Nat → Nat × Nat → Prop) (_ : Tag K) : Prop := match x with | some (c, e, f) => K c e f | none => False
theorem b2Z {c : List Value} {e : Nat} {f : Nat × Nat} {K : List Value → Nat → Nat × Nat → Prop} {t : Tag K} : b1k (some (c, e, f)) K t = K c e f := rfl
def c1Y (off l n : Nat) (f : Nat × Nat) : Prop := off + l ≤ n ∧ (f.2 ≤ f.1 ∨ off + l ≤ f.1 ∨ f.2 ≤ off)
theorem b4B {off l n : Nat} (hl : off + l ≤ n) : c1Y off l n (0, 0) = True := by simp [c1Y, hl]
theorem sT {n b off : Nat} {cs : List Value} {s : Tag h} {t : Tag K} : O8 n (.pointer (some ⟨b, off, none⟩)) cs h K s t =
  b1k (blk h b) (fun c e f => (cs.length = n ∧ pC cs = true ∧ c1Y off cs.length c.length f) ∧ K undef (h.setIfInBounds b (.cells (u7 c off cs).toArray e f))) ⟨⟩ := by
 simp only [O8, wrW, b1k, c1Y]
 apply propext
 constructor
 ·rintro ⟨h1, h2⟩
  split at h2
  ·rename_i c e f hb
   rw [hb]
   exact ⟨⟨h1, h2.1.2.2, h2.1.1, h2.1.2.1⟩, h2.2⟩
  ·exact h2.elim
 ·intro h2
  split at h2
  ·rename_i c e f hb
   rw [hb]
   exact ⟨h2.1.1, ⟨h2.1.2.2.1, h2.1.2.2.2, h2.1.2.1⟩, h2.2⟩
  ·exact h2.elim
theorem b5P : pC [] = true := rfl
theorem a8K {k : IntKind} {n : Int} {vs : List Value} : pC (.int k n :: vs) = pC vs := by simp [pC, Value.oneCell']
theorem b3k {b : Bool} {vs : List Value} : pC (.bool b :: vs) = pC vs := by simp [pC, Value.oneCell']
theorem b5v {b : ByteArray} {vs : List Value} : pC (.string b :: vs) = pC vs := by simp [pC, Value.oneCell']
theorem b4Q {a : Option Addr} {vs : List Value} : pC (.pointer a :: vs) = pC vs := by simp [pC, Value.oneCell']
theorem b7p {a : Option Addr} {n c : Nat} {vs : List Value} : pC (.slice a n c :: vs) = pC vs := by simp [pC, Value.oneCell']
theorem b5i {a : Option Nat} {vs : List Value} : pC (.map a :: vs) = pC vs := by simp [pC, Value.oneCell']
theorem b7A {f : Fn} {a b : Array Value} {vs : List Value} : pC (.func f a b :: vs) = pC vs := by simp [pC, Value.oneCell']
-- branches
theorem cD {p : Prop} {X Y : Prop} {s : Tag X} {t : Tag Y} (hx : p → X) (hy : ¬ p → Y) : W7 (.bool (dcd p)) X Y s t := by
 by_cases h : p
 ·rw [dT h]; simp only [W7, a0b, if_true]; exact hx h
 ·rw [dF h]; simp only [W7, a0b, Bool.false_eq_true, if_false]; exact hy h
theorem b0D {p : Prop} {X Y : Prop} {s : Tag X} {t : Tag Y} (hx : p → X) (hy : ¬ p → Y) : a0A (dcd p) X Y s t := by
 by_cases h : p
 ·rw [dT h]; simp only [a0A, M1, if_true]; exact hx h
 ·rw [dF h]; simp only [a0A, M1, Bool.false_eq_true, if_false]; exact hy h
end
-- loops, cuts, regions
def iv : Value → Int
 | .int _ n => n
 | _ => 0
theorem c3p {k : IntKind} {n : Int} : iv (.int k n) = n := (_root_.id rfl)
section
variable {P : Program} {Q : C5 → Env → c9 → Prop} {ρ : Env} {h : c9}
theorem lI {c : j4} {t1 : Tag c} {t2 : Tag Q} {t3 : Tag ρ} {t4 : Tag h} (I : Env → c9 → Prop) (μ : Env → c9 → Nat) (h0 : I ρ h)
  (hr : ∀ ρ h (J : Env → c9 → Prop), (∀ ρ' h', I ρ' h' → μ ρ' h' < μ ρ h → J ρ' h') → I ρ h → mwp P c (T8 J Q) ρ h) : a7i P c Q ρ h t1 t2 t3 t4 :=
 ⟨I, μ, h0, fun ρ h hi => hr ρ h _ (fun _ _ a b => ⟨a, b⟩) hi⟩
theorem eK {f : FuncId} {m : MFn} (hc : a1i P f = some m) {args : List Value} (hl : args.length ≤ m.n) {h0 : c9} {R : Value → c9 → Prop}
  (hk : ∀ K : Value → c9 → Prop, (∀ v h', R v h' → K v h') → mwp P m.code (b9d m.res K) (a0e args) h0) : d8 P f args h0 R :=
 enter hc hl (hk R fun _ _ h => h)
end
section
variable {h h' : c9}
theorem C1 {c : List Value} {e : Nat} {f : Nat × Nat} {b : Nat} (hb : b = h.size) : blk (h.push (.cells c.toArray e f)) b = some (c, e, f) := by
 subst hb; simp [blk]
theorem G3 {o : Obj} {b : Nat} (hb : b < h.size) : blk (h.push o) b = blk h b := by
 simp only [blk, Array.getElem?_push, if_neg (Nat.ne_of_lt hb)]
theorem K4 {c : List Value} {e : Nat} {f : Nat × Nat} {b : Nat} (hb : b < h.size) : blk (h.setIfInBounds b (.cells c.toArray e f)) b = some (c, e, f) := a4g hb
theorem a1I {o : Obj} {b b' : Nat} (hb : b' ≠ b) : blk (h.setIfInBounds b o) b' = blk h b' := by
 simp only [blk, Array.getElem?_setIfInBounds_ne (Ne.symm hb)]
structure Fr (h h' : c9) (M : List Nat) : Prop where
 size : h.size ≤ h'.size
 same : ∀ b, b < h.size → b ∉ M → h'[b]? = h[b]?
theorem Fr.refl (h : c9) (M : List Nat) : Fr h h M := ⟨x6 _, fun _ _ _ => rfl⟩
theorem Fr.trans {a b c : c9} {M : List Nat} (x : Fr a b M) (y : Fr b c M) : Fr a c M :=
 ⟨X8 x.size y.size, fun i hi hm => (y.same i (Nat.lt_of_lt_of_le hi x.size) hm).trans (x.same i hi hm)⟩
theorem Fr.mono {a b : c9} {M M' : List Nat} (x : Fr a b M) (hm : ∀ i, i < a.size → i ∈ M → i ∈ M') : Fr a b M' :=
 ⟨x.size, fun i hi hn => x.same i hi (fun h => hn (hm i hi h))⟩
theorem Fr.via {a b c : c9} {M M' : List Nat} (y : Fr b c M') (x : Fr a b M) (hm : ∀ i, i < a.size → i ∈ M' → i ∈ M) : Fr a c M :=
 ⟨X8 x.size y.size, fun i hi hn => (y.same i (Nat.lt_of_lt_of_le hi x.size) (fun h => hn (hm i hi h))).trans (x.same i hi hn)⟩
theorem Fr.push {a b : c9} {M : List Nat} (x : Fr a b M) (o : Obj) : Fr a (b.push o) M :=
 ⟨by have := x.size; simp; omega, fun i hi hm => by have := x.size; rw [Array.getElem?_push, if_neg (by omega)]; exact x.same i hi hm⟩
theorem Fr.set {a b : c9} {M : List Nat} (x : Fr a b M) {k : Nat} (hk : k ∈ M ∨ a.size ≤ k) (o : Obj) : Fr a (b.setIfInBounds k o) M :=
 ⟨by have := x.size; simp; omega, fun i hi hm => by
  rw [Array.getElem?_setIfInBounds_ne (by rintro rfl; rcases hk with h | h; exact hm h; omega)]
  exact x.same i hi hm⟩
theorem Fr.setM {a b : c9} {M : List Nat} {k : Nat} (hk : k ∈ M) (x : Fr a b M) (o : Obj) : Fr a (b.setIfInBounds k o) M := x.set (.inl hk) o
theorem Fr.setN {a b : c9} {M : List Nat} {k : Nat} (hk : a.size ≤ k) (x : Fr a b M) (o : Obj) : Fr a (b.setIfInBounds k o) M := x.set (.inr hk) o
theorem Fr.blk {M : List Nat} (x : Fr h h' M) {b : Nat} (hb : b < h.size) (hm : b ∉ M) : blk h' b = blk h b := by
 simp only [MX.blk, x.same b hb hm]
theorem Fr.rdN {M : List Nat} (x : Fr h h' M) {b off n : Nat} (hb : b < h.size) (hm : b ∉ M) : rdN h' b off n = rdN h b off n := by
 simp only [MX.rdN, x.blk hb hm]
theorem a9C {o : Obj} {b off : Nat} (hb : b < h.size) : rd1 (h.push o) (.pointer (some ⟨b, off, none⟩)) = rd1 h (.pointer (some ⟨b, off, none⟩)) := by
 simp only [rd1, rdA, rdN, G3 hb]
theorem a9v {o : Obj} {b off n : Nat} (hb : b < h.size) : rdN (h.push o) b off n = rdN h b off n := by simp only [rdN, G3 hb]
theorem b2q {o : Obj} {b b' off : Nat} (hb : b' ≠ b) : rd1 (h.setIfInBounds b o) (.pointer (some ⟨b', off, none⟩)) = rd1 h (.pointer (some ⟨b', off, none⟩)) := by
 simp only [rd1, rdA, rdN, a1I hb]
theorem b2A {o : Obj} {b b' off n : Nat} (hb : b' ≠ b) : rdN (h.setIfInBounds b o) b' off n = rdN h b' off n := by simp only [rdN, a1I hb]
theorem Fr.rd1 {M : List Nat} (x : Fr h h' M) {b off : Nat} (hb : b < h.size) (hm : b ∉ M) : rd1 h' (.pointer (some ⟨b, off, none⟩)) = rd1 h (.pointer (some ⟨b, off, none⟩)) := by
 simp only [MX.rd1, MX.rdA, x.rdN hb hm]
theorem b8H {b off n : Nat} : rdA h (.pointer (some ⟨b, off, none⟩)) n = rdN h b off n := rfl
theorem m7 {b off n : Nat} {c : List Value} {e : Nat} {f : Nat × Nat} (hb : blk h b = some (c, e, f)) (hl : off + n ≤ c.length) : rdN h b off n = some ((c.drop off).take n) := by
 simp only [rdN, hb, if_pos hl]
theorem i7 {b off : Nat} {c : List Value} {e : Nat} {f : Nat × Nat} (hb : blk h b = some (c, e, f)) : rd1 h (.pointer (some ⟨b, off, none⟩)) = c[off]? := by
 unfold rd1
 rw [b8H]
 unfold rdN
 rw [hb]
 simp only
 by_cases hl : off + 1 ≤ c.length
 ·rw [if_pos hl]
  have h1 : c.drop off = c[off] :: c.drop (off + 1) := X3 (by omega)
  rw [h1, l_r (show off < c.length by omega)]
  rfl
 ·rw [if_neg hl, a0s (by omega)]
theorem b7s {b off n : Nat} {cs : List Value} (hr : rdN h b off n = some cs) : b < h.size := by
 unfold rdN at hr
 split at hr
 ·rename_i hb; exact E9 hb
 ·cases hr
theorem b8t {b off n k m : Nat} {cs : List Value} (hr : rdN h b off n = some cs) (hk : k + m ≤ n) : rdN h b (off + k) m = some ((cs.drop k).take m) := by
 unfold rdN at hr ⊢
 split at hr
 ·rename_i c e f hb
  split at hr
  ·rename_i hl
   cases hr
   rw [if_pos (by omega)]
   congr 1
   rw [List.drop_take, List.drop_drop, List.take_take]
   congr 1
   omega
  ·cases hr
 ·cases hr
theorem rP {b off n : Nat} {cs : List Value} (hr : rdN h b off n = some cs) (k : Nat) (hk : k < n) : rd1 h (.pointer (some ⟨b, off + k, none⟩)) = cs[k]? := by
 have h1 := b8t (k := k) (m := 1) hr hk
 have hl : cs.length = n := (a7w (w := { (default : World) with heap := h }) hr).1
 unfold rd1
 rw [b8H, h1]
 have h2 : cs.drop k = cs[k]'(by omega) :: cs.drop (k + 1) := X3 (by omega)
 rw [h2, l_r (show k < cs.length by omega)]
 rfl
theorem rP0 {b off n : Nat} {cs : List Value} (hr : rdN h b off n = some cs) (hk : 0 < n) : rd1 h (.pointer (some ⟨b, off, none⟩)) = cs[0]? := rP hr 0 hk
theorem a9A {c : List Value} {e : Nat} {f : Nat × Nat} {b off : Nat} (hb : b = h.size) : rd1 (h.push (.cells c.toArray e f)) (.pointer (some ⟨b, off, none⟩)) = c[off]? := i7 (C1 hb)
theorem a4a {c : List Value} {e : Nat} {f : Nat × Nat} {b off n : Nat} (hb : b = h.size) (hl : off + n ≤ c.length) : rdN (h.push (.cells c.toArray e f)) b off n = some ((c.drop off).take n) := m7 (C1 hb) hl
theorem b3t {c : List Value} {e : Nat} {f : Nat × Nat} {b off : Nat} (hb : b < h.size) : rd1 (h.setIfInBounds b (.cells c.toArray e f)) (.pointer (some ⟨b, off, none⟩)) = c[off]? := i7 (K4 hb)
theorem b2v {c : List Value} {e : Nat} {f : Nat × Nat} {b off n : Nat} (hb : b < h.size) (hl : off + n ≤ c.length) : rdN (h.setIfInBounds b (.cells c.toArray e f)) b off n = some ((c.drop off).take n) := m7 (K4 hb) hl
def Arr {α : Type} (enc : α → List Value) (sz : Nat) (h : c9) (A : Option Addr) (xs : List α) : Prop :=
 ∀ i (hi : i < xs.length), ∃ b off, A = some ⟨b, off, none⟩ ∧ rdN h b (off + i * sz) sz = some (enc xs[i])
theorem Arr.nil {α : Type} (enc : α → List Value) (sz : Nat) (h : c9) (A : Option Addr) : Arr enc sz h A [] := fun i hi => absurd hi (by simp)
theorem Arr.keep {α : Type} {enc : α → List Value} {sz : Nat} {A : Option Addr} {xs : List α} (ha : Arr enc sz h A xs) (hs : ∀ b off, A = some ⟨b, off, none⟩ → xs ≠ [] → blk h' b = blk h b) : Arr enc sz h' A xs := by
 intro i hi
 obtain ⟨b, off, hA, hr⟩ := ha i hi
 refine ⟨b, off, hA, ?_⟩
 rw [← hr]
 simp only [rdN, hs b off hA (by rintro rfl; simp at hi)]
end
theorem u2 {x : Int} (h0 : -9223372036854775808 ≤ x) (h1 : x < 9223372036854775808) : IntKind.i64.wrap x = x := IntWalk.i64_in _ (by omega)
theorem c1U {x : Int} (h0 : 0 ≤ x) (h1 : x < 256) : IntKind.u8.wrap x = x := by
 simp only [IntKind.wrap, IntKind.signed, IntKind.bits]
 simp
 omega
theorem b8F {x : Int} (h0 : 0 ≤ x) (h1 : x < 4294967296) : IntKind.u32.wrap x = x := by
 simp only [IntKind.wrap, IntKind.signed, IntKind.bits]
 simp
 omega
theorem b0l {x : Int} (h0 : 0 ≤ x) (h1 : x < 18446744073709551616) : IntKind.u64.wrap x = x := by
 simp only [IntKind.wrap, IntKind.signed, IntKind.bits]
 simp
 omega
attribute [go_sem ↓] b5M b6z c1M b7P c0V c1i b7O b7S b9N b9E c1a b1z b7B a5b b1N b8N b4W b5w c1k c0k c0m c0q wp_p wp_r wp_e b3e ev_t ev_c b8S b7r b6Y b9o b8U b6X c1O b7C b5k b2k c0L c3w c1X c2M b9H b2G b7m b7X b7U b9G b9e c1j b7y c1m c0t c2f b5W b8C b9t b9w b7R b5p b6G b6x b2o b8j b9h b7x b1v b7a c2c b8k c2G c1s c4k e_mk c3R c2m c3V
attribute [go_sem] b2Z b4B b5P a8K b3k b5v b4Q b7p b5i b7A C1 G3 K4 a1I a9A a9C b3t b2q a4a a9v b2v b2A List.drop_zero List.drop_succ_cons List.take_succ_cons List.take_zero List.take_nil List.drop_nil b2p b3h b2g b2a b3w b1t b2N b1I b1K c3p b0f a9M b0c b3Z b4d a9r b6N c1J c0I c1A c2h c1L c0O c0W b3A b0a b7N b5K dT dF c4v c0D c4b c4i c1o c4t c4s c4d c3C c3e b8q b6T c3o c2C c3X c4p c3Y c3Z c4g b8d b4X c2K c4n c0p c0u c2N c3F c3P b4P b9n b9K b8n b9v c3W c4a b9k c0J b6t b5D b2Q b5F b5t b8J b8X b5H b9Y b5B sN sC c0l c2o c0s c0X c0j c2n c1l b8H u2 c1U b8F b0l List.map_cons List.map_nil List.set_cons_zero List.set_cons_succ List.length_cons List.length_nil List.getElem?_cons_zero List.getElem?_cons_succ List.nil_append List.cons_append List.append_nil Array.size_push Array.size_setIfInBounds Option.map_some Option.map_none Option.isNone_none Option.isNone_some Int.toNat_natCast Int.toNat_sub Int.sub_zero Nat.zero_add Nat.add_zero decide_true decide_false Bool.not_true Bool.not_false Bool.true_and Bool.false_and Bool.and_true Bool.and_false Bool.or_true Bool.or_false Bool.true_or Bool.false_or and_self true_and and_true Bool.false_eq_true if_true if_false not_true_eq_false not_false_eq_true ite_true ite_false ne_eq
universe v
theorem Pc {A B : Prop} (a : A) (b : B) : A ∧ B := ⟨a, b⟩
theorem Pd {A B C : Prop} (a : A) (b : B) (c : C) : A ∧ B ∧ C := ⟨a, b, c⟩
theorem Pe {A B C D : Prop} (a : A) (b : B) (c : C) (d : D) : A ∧ B ∧ C ∧ D := ⟨a, b, c, d⟩
theorem Pf {A B C D E : Prop} (a : A) (b : B) (c : C) (d : D) (e : E) : A ∧ B ∧ C ∧ D ∧ E := ⟨a, b, c, d, e⟩
theorem Wa {G H : Prop} (x : H) (z : G = H := by ((try simp (disch := first|omega|assumption|exact l_a rfl) only [go_sem, ↓wBk, simprocAttr]); exact rfl)) : G := (z).mpr x
theorem Wb {A G H : Prop} (a : A) (x : H) (z : A → G = H := by (intro a; (try simp (disch := first|omega|assumption|exact l_a rfl) only [go_sem, ↓wBk, simprocAttr, a]); exact rfl)) : G := (z a).mpr x
theorem Wc {A B G H : Prop} (a : A) (b : B) (x : H) (z : A → B → G = H := by (intro a b; (try simp (disch := first|omega|assumption|exact l_a rfl) only [go_sem, ↓wBk, simprocAttr, a, b]); exact rfl)) : G := (z a b).mpr x
theorem Wd {A B C G H : Prop} (a : A) (b : B) (c : C) (x : H) (z : A → B → C → G = H := by (intro a b c; (try simp (disch := first|omega|assumption|exact l_a rfl) only [go_sem, ↓wBk, simprocAttr, a, b, c]); exact rfl)) : G := (z a b c).mpr x
theorem We {A B C D G H : Prop} (a : A) (b : B) (c : C) (d : D) (x : H) (z : A → B → C → D → G = H := by (intro a b c d; (try simp (disch := first|omega|assumption|exact l_a rfl) only [go_sem, ↓wBk, simprocAttr, a, b, c, d]); exact rfl)) : G := (z a b c d).mpr x
theorem Wf {A B C D E G H : Prop} (a : A) (b : B) (c : C) (d : D) (e : E) (x : H) (z : A → B → C → D → E → G = H := by (intro a b c d e; (try simp (disch := first|omega|assumption|exact l_a rfl) only [go_sem, ↓wBk, simprocAttr, a, b, c, d, e]); exact rfl)) : G := (z a b c d e).mpr x
theorem Wg {A B C D E F G H : Prop} (a : A) (b : B) (c : C) (d : D) (e : E) (f : F) (x : H) (z : A → B → C → D → E → F → G = H := by (intro a b c d e f; (try simp (disch := first|omega|assumption|exact l_a rfl) only [go_sem, ↓wBk, simprocAttr, a, b, c, d, e, f]); exact rfl)) : G := (z a b c d e f).mpr x
theorem Wh {A B C D E F I G H : Prop} (a : A) (b : B) (c : C) (d : D) (e : E) (f : F) (i : I) (x : H) (z : A → B → C → D → E → F → I → G = H := by (intro a b c d e f i; (try simp (disch := first|omega|assumption|exact l_a rfl) only [go_sem, ↓wBk, simprocAttr, a, b, c, d, e, f, i]); exact rfl)) : G := (z a b c d e f i).mpr x
theorem Wi {A B C D E F I J G H : Prop} (a : A) (b : B) (c : C) (d : D) (e : E) (f : F) (i : I) (j : J) (x : H) (z : A → B → C → D → E → F → I → J → G = H := by (intro a b c d e f i j; (try simp (disch := first|omega|assumption|exact l_a rfl) only [go_sem, ↓wBk, simprocAttr, a, b, c, d, e, f, i, j]); exact rfl)) : G := (z a b c d e f i j).mpr x
theorem Xa {G H : Prop} (x : H) (z : G = H := by ((try simp (disch := first | omega | assumption | ((repeat' (first | exact Fr.refl _ _ | assumption | (refine Fr.via (by assumption) ?_ (by intro i hi hm; first | exact hm | exact l_l _ hm | exact absurd hm l_d | (simp only [l_e, l_y, l_d, or_false] at hm ⊢; omega))) | refine Fr.push ?_ _ | (refine Fr.setM ?_ ?_ _; · first | exact l_n | (simp only [l_e, true_or, or_true]; done)) | (refine Fr.setN ?_ ?_ _; · first | omega | (simp only [l_c, l_b]; omega)))); done) | (simp only [l_c, l_b, l_f, l_g, l_e, l_d, or_false, false_or, T9, not_or]; done) | (simp only [l_c, l_b, l_f, l_g, l_e, l_d, or_false, false_or, not_or]; omega)) only [go_sem, ↓wBk, ↓eA, ↓eB, ↓eS, sT, simprocAttr]); exact rfl)) : G := (z).mpr x
theorem Xb {A G H : Prop} (a : A) (x : H) (z : A → G = H := by (intro a; (try simp (disch := first | omega | assumption | ((repeat' (first | exact Fr.refl _ _ | assumption | (refine Fr.via (by assumption) ?_ (by intro i hi hm; first | exact hm | exact l_l _ hm | exact absurd hm l_d | (simp only [l_e, l_y, l_d, or_false] at hm ⊢; omega))) | refine Fr.push ?_ _ | (refine Fr.setM ?_ ?_ _; · first | exact l_n | (simp only [l_e, true_or, or_true]; done)) | (refine Fr.setN ?_ ?_ _; · first | omega | (simp only [l_c, l_b]; omega)))); done) | (simp only [l_c, l_b, l_f, l_g, l_e, l_d, or_false, false_or, T9, not_or]; done) | (simp only [l_c, l_b, l_f, l_g, l_e, l_d, or_false, false_or, not_or]; omega)) only [go_sem, ↓wBk, ↓eA, ↓eB, ↓eS, sT, simprocAttr, a]); exact rfl)) : G := (z a).mpr x
theorem Xc {A B G H : Prop} (a : A) (b : B) (x : H) (z : A → B → G = H := by (intro a b; (try simp (disch := first | omega | assumption | ((repeat' (first | exact Fr.refl _ _ | assumption | (refine Fr.via (by assumption) ?_ (by intro i hi hm; first | exact hm | exact l_l _ hm | exact absurd hm l_d | (simp only [l_e, l_y, l_d, or_false] at hm ⊢; omega))) | refine Fr.push ?_ _ | (refine Fr.setM ?_ ?_ _; · first | exact l_n | (simp only [l_e, true_or, or_true]; done)) | (refine Fr.setN ?_ ?_ _; · first | omega | (simp only [l_c, l_b]; omega)))); done) | (simp only [l_c, l_b, l_f, l_g, l_e, l_d, or_false, false_or, T9, not_or]; done) | (simp only [l_c, l_b, l_f, l_g, l_e, l_d, or_false, false_or, not_or]; omega)) only [go_sem, ↓wBk, ↓eA, ↓eB, ↓eS, sT, simprocAttr, a, b]); exact rfl)) : G := (z a b).mpr x
theorem Xd {A B C G H : Prop} (a : A) (b : B) (c : C) (x : H) (z : A → B → C → G = H := by (intro a b c; (try simp (disch := first | omega | assumption | ((repeat' (first | exact Fr.refl _ _ | assumption | (refine Fr.via (by assumption) ?_ (by intro i hi hm; first | exact hm | exact l_l _ hm | exact absurd hm l_d | (simp only [l_e, l_y, l_d, or_false] at hm ⊢; omega))) | refine Fr.push ?_ _ | (refine Fr.setM ?_ ?_ _; · first | exact l_n | (simp only [l_e, true_or, or_true]; done)) | (refine Fr.setN ?_ ?_ _; · first | omega | (simp only [l_c, l_b]; omega)))); done) | (simp only [l_c, l_b, l_f, l_g, l_e, l_d, or_false, false_or, T9, not_or]; done) | (simp only [l_c, l_b, l_f, l_g, l_e, l_d, or_false, false_or, not_or]; omega)) only [go_sem, ↓wBk, ↓eA, ↓eB, ↓eS, sT, simprocAttr, a, b, c]); exact rfl)) : G := (z a b c).mpr x
theorem Xe {A B C D G H : Prop} (a : A) (b : B) (c : C) (d : D) (x : H) (z : A → B → C → D → G = H := by (intro a b c d; (try simp (disch := first | omega | assumption | ((repeat' (first | exact Fr.refl _ _ | assumption | (refine Fr.via (by assumption) ?_ (by intro i hi hm; first | exact hm | exact l_l _ hm | exact absurd hm l_d | (simp only [l_e, l_y, l_d, or_false] at hm ⊢; omega))) | refine Fr.push ?_ _ | (refine Fr.setM ?_ ?_ _; · first | exact l_n | (simp only [l_e, true_or, or_true]; done)) | (refine Fr.setN ?_ ?_ _; · first | omega | (simp only [l_c, l_b]; omega)))); done) | (simp only [l_c, l_b, l_f, l_g, l_e, l_d, or_false, false_or, T9, not_or]; done) | (simp only [l_c, l_b, l_f, l_g, l_e, l_d, or_false, false_or, not_or]; omega)) only [go_sem, ↓wBk, ↓eA, ↓eB, ↓eS, sT, simprocAttr, a, b, c, d]); exact rfl)) : G := (z a b c d).mpr x
theorem Xf {A B C D E G H : Prop} (a : A) (b : B) (c : C) (d : D) (e : E) (x : H) (z : A → B → C → D → E → G = H := by (intro a b c d e; (try simp (disch := first | omega | assumption | ((repeat' (first | exact Fr.refl _ _ | assumption | (refine Fr.via (by assumption) ?_ (by intro i hi hm; first | exact hm | exact l_l _ hm | exact absurd hm l_d | (simp only [l_e, l_y, l_d, or_false] at hm ⊢; omega))) | refine Fr.push ?_ _ | (refine Fr.setM ?_ ?_ _; · first | exact l_n | (simp only [l_e, true_or, or_true]; done)) | (refine Fr.setN ?_ ?_ _; · first | omega | (simp only [l_c, l_b]; omega)))); done) | (simp only [l_c, l_b, l_f, l_g, l_e, l_d, or_false, false_or, T9, not_or]; done) | (simp only [l_c, l_b, l_f, l_g, l_e, l_d, or_false, false_or, not_or]; omega)) only [go_sem, ↓wBk, ↓eA, ↓eB, ↓eS, sT, simprocAttr, a, b, c, d, e]); exact rfl)) : G := (z a b c d e).mpr x
theorem Xi {A B C D E F I J G H : Prop} (a : A) (b : B) (c : C) (d : D) (e : E) (f : F) (i : I) (j : J) (x : H) (z : A → B → C → D → E → F → I → J → G = H := by (intro a b c d e f i j; (try simp (disch := first | omega | assumption | ((repeat' (first | exact Fr.refl _ _ | assumption | (refine Fr.via (by assumption) ?_ (by intro i hi hm; first | exact hm | exact l_l _ hm | exact absurd hm l_d | (simp only [l_e, l_y, l_d, or_false] at hm ⊢; omega))) | refine Fr.push ?_ _ | (refine Fr.setM ?_ ?_ _; · first | exact l_n | (simp only [l_e, true_or, or_true]; done)) | (refine Fr.setN ?_ ?_ _; · first | omega | (simp only [l_c, l_b]; omega)))); done) | (simp only [l_c, l_b, l_f, l_g, l_e, l_d, or_false, false_or, T9, not_or]; done) | (simp only [l_c, l_b, l_f, l_g, l_e, l_d, or_false, false_or, not_or]; omega)) only [go_sem, ↓wBk, ↓eA, ↓eB, ↓eS, sT, simprocAttr, a, b, c, d, e, f, i, j]); exact rfl)) : G := (z a b c d e f i j).mpr x
theorem iL {n : Nat} : Int.ofNat (no_index (OfNat.ofNat n)) = OfNat.ofNat n := rfl
theorem iN {n : Nat} : Int.negSucc (no_index (OfNat.ofNat n)) = -(OfNat.ofNat n + 1) := rfl
abbrev j3 (P : Program) (f : FuncId) {m : MFn} (h : a1i P f = some m := by (conv => lhs; reduce; (try dsimp only [iL, iN, Int.reduceAdd]))) : {m : MFn // a1i P f = some m} := ⟨m, h⟩
theorem EN {P : Program} {f : FuncId} {m : MFn} {pf : a1i P f = some m} {i : {m : MFn // a1i P f = some m}} (_ : i = j3 P f pf) {args : List Value} {h0 : c9} {R : Value → c9 → Prop}
  (hk : ∀ K : Value → c9 → Prop, (∀ v h', R v h' → K v h') → mwp P m.code (b9d m.res K) (a0e args) h0) (hl : args.length ≤ m.n := by exact l_a rfl) : d8 P f args h0 R := eK pf hl hk
attribute [go_sem] j3 Option.isSome_none Option.isSome_some Bool.false_beq Bool.true_beq Option.getD_some Option.getD_none
end
end Go.Proofs.YtjagmebglhbdkaaGreat.MX
