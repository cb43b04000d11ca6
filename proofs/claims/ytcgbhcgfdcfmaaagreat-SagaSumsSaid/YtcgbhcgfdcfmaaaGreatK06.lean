import Derived.Test.YtcgbhcgfdcfmaaaGreatK05
namespace Go.Proofs.YtcgbhcgfdcfmaaaGreat.MX
open Go Go.Proofs
set_option linter.unusedSimpArgs false
set_option linter.unusedVariables false
section
universe u
structure Tag {β : Sort u} (k : β) : Type where
def z7 {α : Type} (x : Option α) (K : α → Prop) (_ : Tag K) : Prop := H3 x K
def W5 (b : Bool) (X Y : Prop) (_ : Tag X) (_ : Tag Y) : Prop := G9 b X Y
def X4 (v : Value) (X Y : Prop) (_ : Tag X) (_ : Tag Y) : Prop := a0Q v X Y
def Q8 (n : Nat) (a : Value) (cs : List Value) (h : c9) (K : Value → c9 → Prop) (_ : Tag h) (_ : Tag K) : Prop := cs.length = n ∧ wrW h a cs fun h' => K undef h'
def a5l (T sz bytes : Nat) (z : List Value) (x y : Value) (h : c9) (K : Value → c9 → Prop) (_ : Tag h) (_ : Tag K) : Prop := a7J T sz bytes z x y h K
def b3Y (sz : Nat) (x y : Value) (h : c9) (K : Value → c9 → Prop) (_ : Tag h) (_ : Tag K) : Prop := a6n sz x y h K
def s2bT (T : Nat) (x : Value) (h : c9) (K : Value → c9 → Prop) (_ : Tag h) (_ : Tag K) : Prop := b3X T x h K
def mkT (T bytes : Nat) (z : List Value) (l c : Value) (h : c9) (K : Value → c9 → Prop) (_ : Tag h) (_ : Tag K) : Prop := mkW T bytes z l c h K
def a7Z (P : Program) (f : FuncId) (args : List Value) (h : c9) (K : Value → c9 → Prop) (_ : Tag h) (_ : Tag K) : Prop := d8 P f args h K
def a2z (P : Program) (x : Value) (args : List Value) (h : c9) (K : Value → c9 → Prop) (_ : Tag h) (_ : Tag K) : Prop := a2n P x args h K
def b9H (P : Program) (o : Oper) (ρ : Env) (h : c9) (K : Value → c9 → Prop) (_ : Tag ρ) (_ : Tag h) (_ : Tag K) : Prop := Eff.wp P ρ h K (.any o)
def a8c (P : Program) (c : j3) (Q : D5 → Env → c9 → Prop) (ρ : Env) (h : c9) (_ : Tag c) (_ : Tag Q) (_ : Tag ρ) (_ : Tag h) : Prop := mwp P (.loop c) Q ρ h
def a6m (P : Program) (l : List j2) (s : Sch) (Q : D5 → Env → c9 → Prop) (ρ : Env) (h : c9) (_ : Tag l) (_ : Tag s) (_ : Tag Q) (_ : Tag ρ) (_ : Tag h) : Prop := mwp P (.draw l s) Q ρ h
section
variable {P : Program} {Q : D5 → Env → c9 → Prop} {ρ : Env} {h : c9} {K : Value → c9 → Prop} {C : Env → c9 → Prop}
theorem b4l : mwp P .skip Q ρ h = Q .normal ρ h := (_root_.id rfl)
theorem b8t {l : List j2} : mwp P (.ops l) Q ρ h = J9 P l (Q .normal) ρ h := (_root_.id rfl)
theorem b8H {a b : j3} : mwp P (.seq a b) Q ρ h = mwp P a (Q6 (mwp P b Q) Q) ρ h := (_root_.id rfl)
theorem b5z {c : Opd} {x y : j3} : mwp P (.cond c x y) Q ρ h = X4 (ev ρ c) (mwp P x Q ρ h) (mwp P y Q ρ h) ⟨⟩ ⟨⟩ := (_root_.id rfl)
theorem b4u {c : j3} : mwp P (.loop c) Q ρ h = a8c P c Q ρ h ⟨⟩ ⟨⟩ ⟨⟩ ⟨⟩ := (_root_.id rfl)
theorem b5s {l : List j2} {s : Sch} : mwp P (.draw l s) Q ρ h = a6m P l s Q ρ h ⟨⟩ ⟨⟩ ⟨⟩ ⟨⟩ ⟨⟩ := (_root_.id rfl)
theorem wBk {id : Nat} {c : j3} : mwp P (.block id c) Q ρ h = mwp P c (a2w id Q) ρ h := (_root_.id rfl)
theorem b4R {id : Nat} : mwp P (.exit id) Q ρ h = Q (.exit id) ρ h := (_root_.id rfl)
theorem b7O : mwp P .ret Q ρ h = Q .ret ρ h := (_root_.id rfl)
theorem a8I {k : Env → c9 → Prop} : Q6 k Q .normal = k := (_root_.id rfl)
theorem b6O {k : Env → c9 → Prop} : Q6 k Q .ret = Q .ret := (_root_.id rfl)
theorem b3a {k : Env → c9 → Prop} {id : Nat} : Q6 k Q (.exit id) = Q (.exit id) := (_root_.id rfl)
theorem a8a {id : Nat} : a2w id Q .normal = Q .normal := (_root_.id rfl)
theorem b4V {id : Nat} : a2w id Q .ret = Q .ret := (_root_.id rfl)
theorem b2t {id i : Nat} : a2w id Q (.exit i) = if i = id then Q .normal else Q (.exit i) := by
 funext ρ h; simp only [a2w]; split <;> rfl
theorem b2M : J9 P [] C ρ h = C ρ h := (_root_.id rfl)
theorem b7z {d : Option Nat} {x : j6} {os : List j2} : J9 P (⟨d, .p x, none⟩ :: os) C ρ h = z7 (x.val ρ) (fun v => J9 P os C (H5 ρ d v) h) ⟨⟩ := by
 simp [J9, G9, I7, MOp.wp, z7]
theorem b7F {d : Option Nat} {x : a1w} {os : List j2} : J9 P (⟨d, .r x, none⟩ :: os) C ρ h = z7 (x.val ρ h) (fun v => J9 P os C (H5 ρ d v) h) ⟨⟩ := by
 simp [J9, G9, I7, MOp.wp, z7]
theorem b8T {d : Option Nat} {x : Eff} {os : List j2} : J9 P (⟨d, .e x, none⟩ :: os) C ρ h = x.wp P ρ h fun v h' => J9 P os C (H5 ρ d v) h' := by
 simp [J9, G9, I7, MOp.wp]
theorem b7E {d : Option Nat} {x : MOp} {g : Nat × Bool} {os : List j2} : J9 P (⟨d, x, some g⟩ :: os) C ρ h = W5 (I7 ρ (some g)) (x.wp P ρ h fun v h' => J9 P os C (H5 ρ d v) h') (J9 P os C (H5 ρ d undef) h) ⟨⟩ ⟨⟩ := (_root_.id rfl)
theorem wp_p {x : j6} : MOp.wp P ρ h K (.p x) = z7 (x.val ρ) (fun v => K v h) ⟨⟩ := (_root_.id rfl)
theorem wp_r {x : a1w} : MOp.wp P ρ h K (.r x) = z7 (x.val ρ h) (fun v => K v h) ⟨⟩ := (_root_.id rfl)
theorem wp_e {x : Eff} : MOp.wp P ρ h K (.e x) = x.wp P ρ h K := (_root_.id rfl)
def b1m (v : Value) (b : Bool) : Bool := match v with | .bool c => c == b | _ => false
theorem b0y {s : Nat} {b : Bool} : I7 ρ (some (s, b)) = b1m (ρ s) b := (_root_.id rfl)
theorem a9J {c : Bool} : b1m (.bool c) true = c := by cases c <;> rfl
theorem a7V {c : Bool} : b1m (.bool c) false = !c := by cases c <;> rfl
theorem a9b {b : Bool} : b1m undef b = false := (_root_.id rfl)
theorem ev_t {n : Nat} : ev ρ (.t n) = ρ n := (_root_.id rfl)
theorem ev_c {v : Value} : ev ρ (.c v) = v := (_root_.id rfl)
theorem b7k {d t : Nat} {v : Value} : upd ρ d v t = if t = d then v else ρ t := (_root_.id rfl)
theorem b0H {X Y : Prop} {s : Tag X} {t : Tag Y} : X4 (.bool true) X Y s t = X := by simp [X4, a0Q]
theorem a7W {X Y : Prop} {s : Tag X} {t : Tag Y} : X4 (.bool false) X Y s t = Y := by simp [X4, a0Q]
theorem b0E {X Y : Prop} {s : Tag X} {t : Tag Y} : W5 true X Y s t = X := by simp [W5, G9]
theorem a9l {X Y : Prop} {s : Tag X} {t : Tag Y} : W5 false X Y s t = Y := by simp [W5, G9]
theorem b0t {α : Type} {v : α} {K : α → Prop} {t : Tag K} : z7 (some v) K t = K v := (_root_.id rfl)
theorem b3W {v : Value} {vs : List Value} : V8 (v :: vs) 0 = v := (_root_.id rfl)
theorem b5E {a v : Value} {vs : List Value} : V8 (a :: v :: vs) 1 = v := (_root_.id rfl)
theorem b6E {a b v : Value} {vs : List Value} : V8 (a :: b :: v :: vs) 2 = v := (_root_.id rfl)
theorem b4n {a b c v : Value} {vs : List Value} : V8 (a :: b :: c :: v :: vs) 3 = v := (_root_.id rfl)
theorem b5i {a b c d v : Value} {vs : List Value} : V8 (a :: b :: c :: d :: v :: vs) 4 = v := (_root_.id rfl)
theorem b5Q {a b c d e v : Value} {vs : List Value} : V8 (a :: b :: c :: d :: e :: v :: vs) 5 = v := (_root_.id rfl)
-- pure operations
theorem b7y {x : Opd} : j6.val ρ (.mov x) = some (ev ρ x) := (_root_.id rfl)
theorem b6q {c a b : Opd} : j6.val ρ (.pick c a b) = a8Y (ev ρ c) (ev ρ a) (ev ρ b) := (_root_.id rfl)
theorem b3s {z : List Value} {ps : List (Nat × Nat × Opd)} : j6.val ρ (.build z ps) = i5 (V6 z (ps.map fun p => (p.1, p.2.1, ev ρ p.2.2))) fun cs => some (.agg cs.toArray) := (_root_.id rfl)
theorem b0I {x : Opd} : j6.val ρ (.nilchk x) = b6s (ev ρ x) := (_root_.id rfl)
theorem b8G {op : BinOp} {x y : Opd} : j6.val ρ (.bin op x y) = v6 op (ev ρ x) (ev ρ y) := (_root_.id rfl)
theorem b9G {k : EK} {n : Bool} {x y : Opd} : j6.val ρ (.eq k n x y) = i5 (eqV k (ev ρ x) (ev ρ y)) fun b => some (.bool (if n then !b else b)) := (_root_.id rfl)
theorem c0d {op : UnOp} {x : Opd} : j6.val ρ (.un op x) = unV op (ev ρ x) := (_root_.id rfl)
theorem b4z {k : IntKind} {x : Opd} : j6.val ρ (.conv k x) = a8m k (ev ρ x) := (_root_.id rfl)
theorem a9I {x : Opd} {n : Nat} : j6.val ρ (.addOff x n) = a1y (ev ρ x) n := (_root_.id rfl)
theorem b5D {sz : Nat} {x i : Opd} : j6.val ρ (.idxS sz x i) = a6d sz (ev ρ x) (ev ρ i) := (_root_.id rfl)
theorem b4W {ln sz : Nat} {x i : Opd} : j6.val ρ (.idxA ln sz x i) = a6D ln sz (ev ρ x) (ev ρ i) := (_root_.id rfl)
theorem b4K {sz : Nat} {x : Opd} {lo hi mx : Option Opd} : j6.val ρ (.cutS sz x lo hi mx) = a2I sz (ev ρ x) (lo.map (ev ρ)) (hi.map (ev ρ)) (mx.map (ev ρ)) := (_root_.id rfl)
theorem b5q {n sz : Nat} {x : Opd} {lo hi mx : Option Opd} : j6.val ρ (.cutA n sz x lo hi mx) = a0F n sz (ev ρ x) (lo.map (ev ρ)) (hi.map (ev ρ)) (mx.map (ev ρ)) := (_root_.id rfl)
theorem b5j {x : Opd} {lo hi : Option Opd} : j6.val ρ (.cutT x lo hi) = a4A (ev ρ x) (lo.map (ev ρ)) (hi.map (ev ρ)) := (_root_.id rfl)
theorem b7Y {s : Bool} {x : Opd} : j6.val ρ (.len s x) = a7S s (ev ρ x) := (_root_.id rfl)
theorem b6B {n : Nat} : j6.val ρ (.lenA n) = some (.int .i64 n) := (_root_.id rfl)
theorem b8A {x : Opd} : j6.val ρ (.cap x) = b5S (ev ρ x) := (_root_.id rfl)
theorem b7o {x : Opd} {ys : List Opd} : j6.val ρ (.min x ys) = a1W b5o (ev ρ x) (ys.map (ev ρ)) := (_root_.id rfl)
theorem b7m {x : Opd} {ys : List Opd} : j6.val ρ (.max x ys) = a1W b4G (ev ρ x) (ys.map (ev ρ)) := (_root_.id rfl)
theorem b3V {off n : Nat} {g : Bool} {x : Opd} : j6.val ρ (.field off n g x) = a1h off n g (ev ρ x) := (_root_.id rfl)
theorem b6W {ln sz : Nat} {g : Bool} {x i : Opd} : j6.val ρ (.idxG ln sz g x i) = a4i ln sz g (ev ρ x) (ev ρ i) := (_root_.id rfl)
theorem b5t {x i : Opd} : j6.val ρ (.idxT x i) = a4M (ev ρ x) (ev ρ i) := (_root_.id rfl)
theorem b5X {x : Opd} {i : Nat} : j6.val ρ (.extr x i) = a6b (ev ρ x) i := (_root_.id rfl)
theorem b4e {f : Fn} {a b : List Opd} : j6.val ρ (.func f a b) = some (.func f (a.map (ev ρ)).toArray (b.map (ev ρ)).toArray) := (_root_.id rfl)
theorem b2H {a : Opd} : a1w.val ρ h (.load1 a) = rd1 h (ev ρ a) := (_root_.id rfl)
theorem b3h {n : Nat} {a : Opd} : a1w.val ρ h (.loadN n a) = i5 (rdA h (ev ρ a) n) fun cs => some (.agg cs.toArray) := (_root_.id rfl)
-- values
noncomputable def dcd (p : Prop) : Bool := @decide p (Classical.propDecidable p)
theorem R5 (p : Prop) [i : Decidable p] : dcd p = decide p := by
 unfold dcd
 exact decide_eq_decide.2 Iff.rfl
theorem b5h : dcd True = true := by rw [R5]; rfl
theorem b3w : dcd False = false := by rw [R5]; rfl
theorem o7 {p : Prop} (h : dcd p = true) : p := @of_decide_eq_true p (Classical.propDecidable p) h
theorem x9 {p : Prop} (h : dcd p = false) : ¬ p := @of_decide_eq_false p (Classical.propDecidable p) h
theorem dT {p : Prop} (h : p) : dcd p = true := @decide_eq_true p (Classical.propDecidable p) h
theorem dF {p : Prop} (h : ¬ p) : dcd p = false := @decide_eq_false p (Classical.propDecidable p) h
theorem a7T {k : IntKind} {a b : Int} : v6 .add (.int k a) (.int k b) = some (.int k (k.wrap (a + b))) := by simp [v6, F5]
theorem a7q {k : IntKind} {a b : Int} : v6 .sub (.int k a) (.int k b) = some (.int k (k.wrap (a - b))) := by simp [v6, F5]
theorem a7b {k : IntKind} {a b : Int} : v6 .mul (.int k a) (.int k b) = some (.int k (k.wrap (a * b))) := by simp [v6, F5]
theorem b1U {k : IntKind} {a b : Int} (hb : b ≠ 0) : v6 .quo (.int k a) (.int k b) = some (.int k (k.wrap (a.tdiv b))) := by simp [v6, F5, hb]
theorem b1J {k : IntKind} {a b : Int} (hb : b ≠ 0) : v6 .rem (.int k a) (.int k b) = some (.int k (a.tmod b)) := by simp [v6, F5, hb]
theorem a7i {k : IntKind} {a b : Int} : v6 .and (.int k a) (.int k b) = some (.int k (k.wrap (BitVec.ofInt k.bits a &&& BitVec.ofInt k.bits b).toNat)) := by simp [v6, F5]
theorem b3Z {k : IntKind} {a b : Int} : v6 .or (.int k a) (.int k b) = some (.int k (k.wrap (BitVec.ofInt k.bits a ||| BitVec.ofInt k.bits b).toNat)) := by simp [v6, F5]
theorem b7V {k : IntKind} {a b : Int} : v6 .xor (.int k a) (.int k b) = some (.int k (k.wrap (BitVec.ofInt k.bits a ^^^ BitVec.ofInt k.bits b).toNat)) := by simp [v6, F5]
theorem b8f {k : IntKind} {a b : Int} : v6 .eql (.int k a) (.int k b) = some (.bool (dcd (a = b))) := by simp [v6, F5, R5, bne]; rfl
theorem b7H {k : IntKind} {a b : Int} : v6 .neq (.int k a) (.int k b) = some (.bool (!dcd (a = b))) := by simp [v6, F5, R5, bne]; rfl
theorem b7r {k : IntKind} {a b : Int} : v6 .lss (.int k a) (.int k b) = some (.bool (dcd (a < b))) := by simp [v6, F5, R5, bne]
theorem b7c {k : IntKind} {a b : Int} : v6 .leq (.int k a) (.int k b) = some (.bool (dcd (a ≤ b))) := by simp [v6, F5, R5, bne]
theorem b7p {k : IntKind} {a b : Int} : v6 .gtr (.int k a) (.int k b) = some (.bool (dcd (b < a))) := by simp [v6, F5, R5, bne]
theorem b8x {k : IntKind} {a b : Int} : v6 .geq (.int k a) (.int k b) = some (.bool (dcd (b ≤ a))) := by simp [v6, F5, R5, bne]
theorem b1p {k k' : IntKind} {a b : Int} (hb : 0 ≤ b) : v6 .shl (.int k a) (.int k' b) = some (.int k (k.wrap (a * 2 ^ (min b.toNat k.bits)))) := by simp [v6, Int.not_lt.2 hb]
theorem a7U {k k' : IntKind} {a b : Int} (hb : 0 ≤ b) : v6 .shr (.int k a) (.int k' b) = some (.int k (a.fdiv (2 ^ (min b.toNat k.bits)))) := by simp [v6, Int.not_lt.2 hb]
theorem b8C {a b : Bool} : eqV .b (.bool a) (.bool b) = some (a == b) := (_root_.id rfl)
theorem c0B {ks : List CK} {xs ys : List Value} : b2j ks (.agg xs.toArray) (.agg ys.toArray) = eqK ks xs ys := by simp [b2j]
theorem b8F : eqK [] [] [] = some true := rfl
theorem c0U {ks : List CK} {k : IntKind} {a b : Int} {xs ys : List Value} : eqK (.i :: ks) (.int k a :: xs) (.int k b :: ys) = i5 (eqK ks xs ys) fun c => some (dcd (a = b) && c) := by
 simp only [eqK, Y3, if_true, i5, R5]; rfl
theorem c0A {ks : List CK} {a b : Bool} {xs ys : List Value} : eqK (.b :: ks) (.bool a :: xs) (.bool b :: ys) = i5 (eqK ks xs ys) fun c => some ((a == b) && c) := by
 simp only [eqK, Y3, i5]
theorem b7h {ks : List CK} {n : Bool} {x y : Opd} : j6.val ρ (.eqA ks n x y) = i5 (b2j ks (ev ρ x) (ev ρ y)) fun b => some (.bool (if n then !b else b)) := (_root_.id rfl)
theorem c1a {a : Option Addr} : eqV .p (.pointer a) (.pointer none) = some a.isNone := by cases a <;> rfl
theorem c0P {a : Option Addr} : eqV .p (.pointer none) (.pointer a) = some a.isNone := (_root_.id rfl)
theorem c0Z {a : Option Addr} {n c m d : Nat} : eqV .s (.slice a n c) (.slice none m d) = some a.isNone := by cases a <;> rfl
theorem c0f {k : IntKind} {a : Int} : unV .neg (.int k a) = some (.int k (k.wrap (0 - a))) := (_root_.id rfl)
theorem c0h {a : Bool} : unV .not (.bool a) = some (.bool (!a)) := (_root_.id rfl)
theorem b4X {k k' : IntKind} {a : Int} : a8m k (.int k' a) = some (.int k (k.wrap a)) := (_root_.id rfl)
theorem b5w {b off n : Nat} : a1y (.pointer (some ⟨b, off, none⟩)) n = some (.pointer (some ⟨b, off + n, none⟩)) := by simp [a1y, K1]
theorem b9z {sz b off n c : Nat} {k : IntKind} {i : Int} (h0 : 0 ≤ i) (h1 : i < n) : a6d sz (.slice (some ⟨b, off, none⟩) n c) (.int k i) = some (.pointer (some ⟨b, off + i.toNat * sz, none⟩)) := by simp [a6d, h0, h1, K1]
theorem c0l {ln sz b off : Nat} {k : IntKind} {i : Int} (h0 : 0 ≤ i) (h1 : i < ln) : a6D ln sz (.pointer (some ⟨b, off, none⟩)) (.int k i) = some (.pointer (some ⟨b, off + i.toNat * sz, none⟩)) := by simp [a6D, h0, h1, K1]
theorem c0D {s : ByteArray} : a7S true (.string s) = some (.int .i64 s.size) := (_root_.id rfl)
theorem c0O {a : Option Addr} {n c : Nat} : a7S false (.slice a n c) = some (.int .i64 n) := (_root_.id rfl)
theorem c1b {a : Option Addr} {n c : Nat} : b5S (.slice a n c) = some (.int .i64 c) := (_root_.id rfl)
theorem c0I {k k' : IntKind} {x y : Int} : b5o (.int k x) (.int k' y) = some (.int k (if y < x then y else x)) := (_root_.id rfl)
theorem c0J {k k' : IntKind} {x y : Int} : b4G (.int k x) (.int k' y) = some (.int k (if y > x then y else x)) := (_root_.id rfl)
theorem b4s {f : Value → Value → Option Value} {x : Value} : a1W f x [] = some x := (_root_.id rfl)
theorem b3k {f : Value → Value → Option Value} {x y : Value} {ys : List Value} : a1W f x (y :: ys) = i5 (f x y) fun z => a1W f z ys := (_root_.id rfl)
theorem c0w {c : Bool} {a b : Value} : a8Y (.bool c) a b = some (if c then a else b) := (_root_.id rfl)
theorem c0H {a : Addr} : b6s (.pointer (some a)) = some (.pointer (some a)) := (_root_.id rfl)
theorem b9E {vs : List Value} {i : Nat} : a6b (.tuple vs.toArray) i = vs[i]? := by simp [a6b]
theorem b8m {off n : Nat} {l : List Value} : a1h off n false (.agg l.toArray) = l[off]? := by simp [a1h]
theorem b7N {off n : Nat} {l : List Value} : a1h off n true (.agg l.toArray) = some (.agg ((l.drop off).take n).toArray) := by
 have : (List.take (off + n - off) (List.drop off l)) = (l.drop off).take n := by congr 1; omega
 simp [a1h, this]
theorem b9Q {ln sz : Nat} {l : List Value} {k : IntKind} {i : Int} (h0 : 0 ≤ i) (h1 : i < ln) : a4i ln sz false (.agg l.toArray) (.int k i) = l[i.toNat * sz]? := by simp [a4i, h0, h1]
theorem b9y {ln sz : Nat} {l : List Value} {k : IntKind} {i : Int} (h0 : 0 ≤ i) (h1 : i < ln) : a4i ln sz true (.agg l.toArray) (.int k i) = some (.agg ((l.drop (i.toNat * sz)).take sz).toArray) := by
 have : (List.take (i.toNat * sz + sz - i.toNat * sz) (List.drop (i.toNat * sz) l)) = (l.drop (i.toNat * sz)).take sz := by congr 1; omega
 simp [a4i, h0, h1, this]
theorem b5n {d : Nat} : bnd none d = some (d : Int) := (_root_.id rfl)
theorem b4P {k : IntKind} {i : Int} {d : Nat} : bnd (some (.int k i)) d = some i := (_root_.id rfl)
theorem b6Q {sz : Nat} {a : Option Addr} {len cap : Nat} {lo hi mx : Option Value} : a2I sz (.slice a len cap) lo hi mx = i5 (bnd lo 0) fun l => i5 (bnd hi len) fun h => i5 (bnd mx cap) fun m => a1T a sz l h m cap := (_root_.id rfl)
theorem b6J {n sz : Nat} {a : Addr} {lo hi mx : Option Value} : a0F n sz (.pointer (some a)) lo hi mx = i5 (bnd lo 0) fun l => i5 (bnd hi n) fun h => i5 (bnd mx n) fun m => a1T (some a) sz l h m n := (_root_.id rfl)
theorem c0y {a : Option Addr} {sz : Nat} {l h m cap : Int} (c0 : 0 ≤ l) (c1 : l ≤ h) (c2 : h ≤ m) (c3 : m ≤ cap) : a1T a sz l h m cap = some (.slice (if m = l then a else a.map (·.add (l.toNat * sz))) (h - l).toNat (m - l).toNat) := by simp [a1T, c0, c1, c2, c3]
theorem c1c : ((0 : Nat) : Int) = 0 := (_root_.id rfl)
theorem b3n : bnd none 0 = some 0 := (_root_.id rfl)
theorem c0E {a : Option Addr} {sz : Nat} {h m cap : Int} (c1 : 0 ≤ h) (c2 : h ≤ m) (c3 : m ≤ cap) : a1T a sz 0 h m cap = some (.slice a h.toNat m.toNat) := by
 have e : (a.map fun x => x.add 0) = a := by cases a <;> simp [Addr.add]
 simp [a1T, c1, c2, c3, e]
theorem c0b {b off sz : Nat} {l h m cap : Int} (c0 : 0 ≤ l) (c1 : l ≤ h) (c2 : h ≤ m) (c3 : m ≤ cap) (hlt : l < m) : a1T (some ⟨b, off, none⟩) sz l h m cap = some (.slice (some ⟨b, off + l.toNat * sz, none⟩) (h - l).toNat (m - l).toNat) := by
 simp [a1T, c0, c1, c2, c3, K1, show ¬ (m = l) by omega]
theorem b8Y {a : Option Addr} {sz : Nat} {l h m cap : Int} (c0 : 0 ≤ l) (c1 : l = h) (c2 : h = m) (c3 : m ≤ cap) : a1T a sz l h m cap = some (.slice a 0 0) := by
 subst c1 c2
 simp [a1T, c0, c3]
theorem b3q {l : List Value} : cellsOf (.agg l.toArray) = l := by simp [cellsOf, Value.cells]
theorem b3Q {k : IntKind} {n : Int} : cellsOf (.int k n) = [.int k n] := (_root_.id rfl)
theorem b0F {b : Bool} : cellsOf (.bool b) = [.bool b] := (_root_.id rfl)
theorem b2I {s : ByteArray} : cellsOf (.string s) = [.string s] := (_root_.id rfl)
theorem b2W {a : Option Addr} : cellsOf (.pointer a) = [.pointer a] := (_root_.id rfl)
theorem b4o {a : Option Addr} {n c : Nat} : cellsOf (.slice a n c) = [.slice a n c] := (_root_.id rfl)
theorem b4h {f : Fn} {a b : Array Value} : cellsOf (.func f a b) = [.func f a b] := (_root_.id rfl)
theorem b3o {a : Option Nat} : cellsOf (.map a) = [.map a] := (_root_.id rfl)
theorem b4Y {z : List Value} : V6 z [] = some z := (_root_.id rfl)
theorem b2m {z : List Value} {off size : Nat} {v : Value} {rest : List (Nat × Nat × Value)} : V6 z ((off, size, v) :: rest) = if (cellsOf v).length = size ∧ off + size ≤ z.length then V6 (t7 z off (cellsOf v)) rest else none := (_root_.id rfl)
theorem sN {c : List Value} {off : Nat} : t7 c off [] = c := (_root_.id rfl)
theorem sC {c : List Value} {off : Nat} {v : Value} {vs : List Value} : t7 c off (v :: vs) = t7 (c.set off v) (off + 1) vs := (_root_.id rfl)
theorem b7B {z : List Value} : l5 z 0 = [] := (_root_.id rfl)
theorem b7e {z : List Value} : l5 z 1 = z := by simp [l5]
-- results
theorem b2D : a0R ρ h [] = some [] := (_root_.id rfl)
theorem a9H {r : a2f} {rs : List a2f} : a0R ρ h (r :: rs) = i5 (b3R ρ h r) fun v => i5 (a0R ρ h rs) fun vs => some (v :: vs) := (_root_.id rfl)
theorem b6h {t : Nat} : b3R ρ h (.tmp t) = some (ρ t) := (_root_.id rfl)
theorem b5F {t n : Nat} : b3R ρ h (.cell t n false) = rd1 h (ρ t) := (_root_.id rfl)
theorem b5V {t n : Nat} : b3R ρ h (.cell t n true) = i5 (rdA h (ρ t) n) fun cs => some (.agg cs.toArray) := (_root_.id rfl)
theorem a9z {rs : List a2f} {R : Value → c9 → Prop} : b6k rs R .normal ρ h = z7 (a0R ρ h rs) (fun vs => R (a1g vs) h) ⟨⟩ := (_root_.id rfl)
theorem b6P {rs : List a2f} {R : Value → c9 → Prop} : b6k rs R .ret ρ h = z7 (a0R ρ h rs) (fun vs => R (a1g vs) h) ⟨⟩ := (_root_.id rfl)
theorem b8s {v : Value} : a1g [v] = v := (_root_.id rfl)
theorem b7l {v u : Value} : a1g [v, u] = .tuple #[v, u] := (_root_.id rfl)
theorem b7K {v u x : Value} : a1g [v, u, x] = .tuple #[v, u, x] := (_root_.id rfl)
theorem b8a {v u x y : Value} : a1g [v, u, x, y] = .tuple #[v, u, x, y] := (_root_.id rfl)
theorem b8h : a1g [] = .tuple #[] := (_root_.id rfl)
-- effects
theorem eA {T : Nat} {z : List Value} : Eff.wp P ρ h K (.alloc T z) = K (.pointer (some ⟨h.size, 0, none⟩)) (h.push (.cells z.toArray T (0, 0))) := (_root_.id rfl)
theorem eB {T : Nat} {x : Opd} : Eff.wp P ρ h K (.box T x) = K (.pointer (some ⟨h.size, 0, none⟩)) (h.push (.cells (cellsOf (ev ρ x)).toArray T (0, 0))) := (_root_.id rfl)
theorem eS {T len : Nat} {z : List Value} {ps : List (Nat × Nat × Opd)} : Eff.wp P ρ h K (.bslice T len z ps) = z7 (V6 (l5 z len) (ps.map fun p => (p.1, p.2.1, ev ρ p.2.2))) (fun cs =>
   K (.slice (some ⟨h.size, 0, none⟩) len len) (h.push (.cells cs.toArray T (0, 0)))) ⟨⟩ := (_root_.id rfl)
theorem b8j {n : Nat} {a x : Opd} : Eff.wp P ρ h K (.store n a x) = Q8 n (ev ρ a) (cellsOf (ev ρ x)) h K ⟨⟩ ⟨⟩ := (_root_.id rfl)
theorem b4y {T sz bytes : Nat} {z : List Value} {x y : Opd} : Eff.wp P ρ h K (.append T sz bytes z x y) = a5l T sz bytes z (ev ρ x) (ev ρ y) h K ⟨⟩ ⟨⟩ := (_root_.id rfl)
theorem b9U {sz : Nat} {x y : Opd} : Eff.wp P ρ h K (.copy sz x y) = b3Y sz (ev ρ x) (ev ρ y) h K ⟨⟩ ⟨⟩ := (_root_.id rfl)
theorem c0V {T : Nat} {x : Opd} : Eff.wp P ρ h K (.s2b T x) = s2bT T (ev ρ x) h K ⟨⟩ ⟨⟩ := (_root_.id rfl)
theorem e_mk {T sz bytes : Nat} {z : List Value} {l c : Opd} : Eff.wp P ρ h K (.mkslice T sz bytes z l c) = mkT T bytes z (ev ρ l) (ev ρ c) h K ⟨⟩ ⟨⟩ := (_root_.id rfl)
def b0w (zero : List Value) (x : Value) (h : c9) (K : Value → c9 → Prop) (_ : Tag h) (_ : Tag K) : Prop := a3K zero x h K
theorem b8R {sz : Nat} {z : List Value} {x : Opd} : Eff.wp P ρ h K (.clear sz z x) = b0w z (ev ρ x) h K ⟨⟩ ⟨⟩ := (_root_.id rfl)
theorem b9u {f : FuncId} {args : List Opd} : Eff.wp P ρ h K (.call f args) = a7Z P f (args.map (ev ρ)) h K ⟨⟩ ⟨⟩ := (_root_.id rfl)
theorem b7C {x : Opd} {args : List Opd} : Eff.wp P ρ h K (.callv x args) = a2z P (ev ρ x) (args.map (ev ρ)) h K ⟨⟩ ⟨⟩ := (_root_.id rfl)
theorem c0T {o : Oper} : Eff.wp P ρ h K (.any o) = b9H P o ρ h K ⟨⟩ ⟨⟩ ⟨⟩ := (_root_.id rfl)
theorem a6W {f : FuncId} {a b : List Value} {args : List Value} {s : Tag h} {t : Tag K} (hok : a2r P f = true) (hc : d8 P f (a ++ args ++ b) h K) : a2z P (.func (.func f) a.toArray b.toArray) args h K s t := by
 simp only [a2z, a2n]
 exact ⟨hok, by simpa using hc⟩
theorem cI {f : FuncId} {args : List Value} {s : Tag h} {t : Tag K} {R : Value → c9 → Prop} (hc : d8 P f args h R) (hk : ∀ v h', R v h' → K v h') : a7Z P f args h K s t := hc.mono hk
-- stores
def a9r (x : Option (List Value × Nat × (Nat × Nat))) (K : List Value → Nat → Nat × Nat → Prop) (_ : Tag K) : Prop := match x with | some (c, e, f) => K c e f | none => False
theorem a9V {c : List Value} {e : Nat} {f : Nat × Nat} {K : List Value → Nat → Nat × Nat → Prop} {t : Tag K} : a9r (some (c, e, f)) K t = K c e f := rfl
def b8o (off l n : Nat) (f : Nat × Nat) : Prop := off + l ≤ n ∧ (f.2 ≤ f.1 ∨ off + l ≤ f.1 ∨ f.2 ≤ off)
theorem b1k {off l n : Nat} (hl : off + l ≤ n) : b8o off l n (0, 0) = True := by simp [b8o, hl]
theorem sT {n b off : Nat} {cs : List Value} {s : Tag h} {t : Tag K} : Q8 n (.pointer (some ⟨b, off, none⟩)) cs h K s t =
  a9r (blk h b) (fun c e f => (cs.length = n ∧ pC cs = true ∧ b8o off cs.length c.length f) ∧ K undef (h.setIfInBounds b (.cells (t7 c off cs).toArray e f))) ⟨⟩ := by
 simp only [Q8, wrW, a9r, b8o]
 apply propext
 constructor
 ·rintro ⟨h1, h2⟩
  split at h2
  ·rename_i c e f hb
   rw [hb]
   exact ⟨⟨h1, h2.1.2.2, h2.1.1, h2.1.2.1⟩, h2.2⟩
  ·exact h2.elim
 ·intro h2
  split at h2
  ·rename_i c e f hb
   rw [hb]
   exact ⟨h2.1.1, ⟨h2.1.2.2.1, h2.1.2.2.2, h2.1.2.1⟩, h2.2⟩
  ·exact h2.elim
theorem b2x : pC [] = true := rfl
theorem a6a {k : IntKind} {n : Int} {vs : List Value} : pC (.int k n :: vs) = pC vs := by simp [pC, Value.oneCell']
theorem b0b {b : Bool} {vs : List Value} : pC (.bool b :: vs) = pC vs := by simp [pC, Value.oneCell']
theorem b3B {b : ByteArray} {vs : List Value} : pC (.string b :: vs) = pC vs := by simp [pC, Value.oneCell']
theorem b2G {a : Option Addr} {vs : List Value} : pC (.pointer a :: vs) = pC vs := by simp [pC, Value.oneCell']
theorem b5p {a : Option Addr} {n c : Nat} {vs : List Value} : pC (.slice a n c :: vs) = pC vs := by simp [pC, Value.oneCell']
theorem b3r {a : Option Nat} {vs : List Value} : pC (.map a :: vs) = pC vs := by simp [pC, Value.oneCell']
theorem b6j {f : Fn} {a b : Array Value} {vs : List Value} : pC (.func f a b :: vs) = pC vs := by simp [pC, Value.oneCell']
-- branches
theorem cD {p : Prop} {X Y : Prop} {s : Tag X} {t : Tag Y} (hx : p → X) (hy : ¬ p → Y) : X4 (.bool (dcd p)) X Y s t := by
 by_cases h : p
 ·rw [dT h]; simp only [X4, a0Q, if_true]; exact hx h
 ·rw [dF h]; simp only [X4, a0Q, Bool.false_eq_true, if_false]; exact hy h
theorem a9p {p : Prop} {X Y : Prop} {s : Tag X} {t : Tag Y} (hx : p → X) (hy : ¬ p → Y) : W5 (dcd p) X Y s t := by
 by_cases h : p
 ·rw [dT h]; simp only [W5, G9, if_true]; exact hx h
 ·rw [dF h]; simp only [W5, G9, Bool.false_eq_true, if_false]; exact hy h
end
-- loops, cuts, regions
def iv : Value → Int
 | .int _ n => n
 | _ => 0
theorem c0p {k : IntKind} {n : Int} : iv (.int k n) = n := (_root_.id rfl)
section
variable {P : Program} {Q : D5 → Env → c9 → Prop} {ρ : Env} {h : c9}
theorem lI {c : j3} {t1 : Tag c} {t2 : Tag Q} {t3 : Tag ρ} {t4 : Tag h} (I : Env → c9 → Prop) (μ : Env → c9 → Nat) (h0 : I ρ h)
  (hr : ∀ ρ h (J : Env → c9 → Prop), (∀ ρ' h', I ρ' h' → μ ρ' h' < μ ρ h → J ρ' h') → I ρ h → mwp P c (Q6 J Q) ρ h) : a8c P c Q ρ h t1 t2 t3 t4 :=
 ⟨I, μ, h0, fun ρ h hi => hr ρ h _ (fun _ _ a b => ⟨a, b⟩) hi⟩
theorem eK {f : FuncId} {m : MFn} (hc : Z7 P f = some m) {args : List Value} (hl : args.length ≤ m.n) {h0 : c9} {R : Value → c9 → Prop}
  (hk : ∀ K : Value → c9 → Prop, (∀ v h', R v h' → K v h') → mwp P m.code (b6k m.res K) (V8 args) h0) : d8 P f args h0 R :=
 enter hc hl (hk R fun _ _ h => h)
end
section
variable {h h' : c9}
theorem y7 {c : List Value} {e : Nat} {f : Nat × Nat} {b : Nat} (hb : b = h.size) : blk (h.push (.cells c.toArray e f)) b = some (c, e, f) := by
 subst hb; simp [blk]
theorem C0 {o : Obj} {b : Nat} (hb : b < h.size) : blk (h.push o) b = blk h b := by
 simp only [blk, Array.getElem?_push, if_neg (Nat.ne_of_lt hb)]
theorem F0 {c : List Value} {e : Nat} {f : Nat × Nat} {b : Nat} (hb : b < h.size) : blk (h.setIfInBounds b (.cells c.toArray e f)) b = some (c, e, f) := a3k hb
theorem a0j {o : Obj} {b b' : Nat} (hb : b' ≠ b) : blk (h.setIfInBounds b o) b' = blk h b' := by
 simp only [blk, Array.getElem?_setIfInBounds_ne (Ne.symm hb)]
structure Fr (h h' : c9) (M : List Nat) : Prop where
 size : h.size ≤ h'.size
 same : ∀ b, b < h.size → b ∉ M → h'[b]? = h[b]?
theorem Fr.refl (h : c9) (M : List Nat) : Fr h h M := ⟨v8 _, fun _ _ _ => rfl⟩
theorem Fr.trans {a b c : c9} {M : List Nat} (x : Fr a b M) (y : Fr b c M) : Fr a c M :=
 ⟨U3 x.size y.size, fun i hi hm => (y.same i (Nat.lt_of_lt_of_le hi x.size) hm).trans (x.same i hi hm)⟩
theorem Fr.mono {a b : c9} {M M' : List Nat} (x : Fr a b M) (hm : ∀ i, i < a.size → i ∈ M → i ∈ M') : Fr a b M' :=
 ⟨x.size, fun i hi hn => x.same i hi (fun h => hn (hm i hi h))⟩
theorem Fr.via {a b c : c9} {M M' : List Nat} (y : Fr b c M') (x : Fr a b M) (hm : ∀ i, i < a.size → i ∈ M' → i ∈ M) : Fr a c M :=
 ⟨U3 x.size y.size, fun i hi hn => (y.same i (Nat.lt_of_lt_of_le hi x.size) (fun h => hn (hm i hi h))).trans (x.same i hi hn)⟩
theorem Fr.push {a b : c9} {M : List Nat} (x : Fr a b M) (o : Obj) : Fr a (b.push o) M :=
 ⟨by have := x.size; simp; omega, fun i hi hm => by have := x.size; rw [Array.getElem?_push, if_neg (by omega)]; exact x.same i hi hm⟩
theorem Fr.set {a b : c9} {M : List Nat} (x : Fr a b M) {k : Nat} (hk : k ∈ M ∨ a.size ≤ k) (o : Obj) : Fr a (b.setIfInBounds k o) M :=
 ⟨by have := x.size; simp; omega, fun i hi hm => by
  rw [Array.getElem?_setIfInBounds_ne (by rintro rfl; rcases hk with h | h; exact hm h; omega)]
  exact x.same i hi hm⟩
theorem Fr.setM {a b : c9} {M : List Nat} {k : Nat} (hk : k ∈ M) (x : Fr a b M) (o : Obj) : Fr a (b.setIfInBounds k o) M := x.set (.inl hk) o
theorem Fr.setN {a b : c9} {M : List Nat} {k : Nat} (hk : a.size ≤ k) (x : Fr a b M) (o : Obj) : Fr a (b.setIfInBounds k o) M := x.set (.inr hk) o
theorem Fr.blk {M : List Nat} (x : Fr h h' M) {b : Nat} (hb : b < h.size) (hm : b ∉ M) : blk h' b = blk h b := by
 simp only [MX.blk, x.same b hb hm]
theorem Fr.rdN {M : List Nat} (x : Fr h h' M) {b off n : Nat} (hb : b < h.size) (hm : b ∉ M) : rdN h' b off n = rdN h b off n := by
 simp only [MX.rdN, x.blk hb hm]
theorem a7r {o : Obj} {b off : Nat} (hb : b < h.size) : rd1 (h.push o) (.pointer (some ⟨b, off, none⟩)) = rd1 h (.pointer (some ⟨b, off, none⟩)) := by
 simp only [rd1, rdA, rdN, C0 hb]
theorem a7L {o : Obj} {b off n : Nat} (hb : b < h.size) : rdN (h.push o) b off n = rdN h b off n := by simp only [rdN, C0 hb]
theorem a9P {o : Obj} {b b' off : Nat} (hb : b' ≠ b) : rd1 (h.setIfInBounds b o) (.pointer (some ⟨b', off, none⟩)) = rd1 h (.pointer (some ⟨b', off, none⟩)) := by
 simp only [rd1, rdA, rdN, a0j hb]
theorem b0e {o : Obj} {b b' off n : Nat} (hb : b' ≠ b) : rdN (h.setIfInBounds b o) b' off n = rdN h b' off n := by simp only [rdN, a0j hb]
theorem Fr.rd1 {M : List Nat} (x : Fr h h' M) {b off : Nat} (hb : b < h.size) (hm : b ∉ M) : rd1 h' (.pointer (some ⟨b, off, none⟩)) = rd1 h (.pointer (some ⟨b, off, none⟩)) := by
 simp only [MX.rd1, MX.rdA, x.rdN hb hm]
theorem b4t {b off n : Nat} : rdA h (.pointer (some ⟨b, off, none⟩)) n = rdN h b off n := rfl
theorem F4 {b off n : Nat} {c : List Value} {e : Nat} {f : Nat × Nat} (hb : blk h b = some (c, e, f)) (hl : off + n ≤ c.length) : rdN h b off n = some ((c.drop off).take n) := by
 simp only [rdN, hb, if_pos hl]
theorem s9 {b off : Nat} {c : List Value} {e : Nat} {f : Nat × Nat} (hb : blk h b = some (c, e, f)) : rd1 h (.pointer (some ⟨b, off, none⟩)) = c[off]? := by
 unfold rd1
 rw [b4t]
 unfold rdN
 rw [hb]
 simp only
 by_cases hl : off + 1 ≤ c.length
 ·rw [if_pos hl]
  have h1 : c.drop off = c[off] :: c.drop (off + 1) := U6 (by omega)
  rw [h1, l_r (show off < c.length by omega)]
  rfl
 ·rw [if_neg hl, a3b (by omega)]
theorem b5J {b off n : Nat} {cs : List Value} (hr : rdN h b off n = some cs) : b < h.size := by
 unfold rdN at hr
 split at hr
 ·rename_i hb; exact B6 hb
 ·cases hr
theorem b4m {b off n k m : Nat} {cs : List Value} (hr : rdN h b off n = some cs) (hk : k + m ≤ n) : rdN h b (off + k) m = some ((cs.drop k).take m) := by
 unfold rdN at hr ⊢
 split at hr
 ·rename_i c e f hb
  split at hr
  ·rename_i hl
   cases hr
   rw [if_pos (by omega)]
   congr 1
   rw [List.drop_take, List.drop_drop, List.take_take]
   congr 1
   omega
  ·cases hr
 ·cases hr
theorem rP {b off n : Nat} {cs : List Value} (hr : rdN h b off n = some cs) (k : Nat) (hk : k < n) : rd1 h (.pointer (some ⟨b, off + k, none⟩)) = cs[k]? := by
 have h1 := b4m (k := k) (m := 1) hr hk
 have hl : cs.length = n := (a5G (w := { (default : World) with heap := h }) hr).1
 unfold rd1
 rw [b4t, h1]
 have h2 : cs.drop k = cs[k]'(by omega) :: cs.drop (k + 1) := U6 (by omega)
 rw [h2, l_r (show k < cs.length by omega)]
 rfl
theorem rP0 {b off n : Nat} {cs : List Value} (hr : rdN h b off n = some cs) (hk : 0 < n) : rd1 h (.pointer (some ⟨b, off, none⟩)) = cs[0]? := rP hr 0 hk
theorem a7s {c : List Value} {e : Nat} {f : Nat × Nat} {b off : Nat} (hb : b = h.size) : rd1 (h.push (.cells c.toArray e f)) (.pointer (some ⟨b, off, none⟩)) = c[off]? := s9 (y7 hb)
theorem a2E {c : List Value} {e : Nat} {f : Nat × Nat} {b off n : Nat} (hb : b = h.size) (hl : off + n ≤ c.length) : rdN (h.push (.cells c.toArray e f)) b off n = some ((c.drop off).take n) := F4 (y7 hb) hl
theorem b0G {c : List Value} {e : Nat} {f : Nat × Nat} {b off : Nat} (hb : b < h.size) : rd1 (h.setIfInBounds b (.cells c.toArray e f)) (.pointer (some ⟨b, off, none⟩)) = c[off]? := s9 (F0 hb)
theorem b0x {c : List Value} {e : Nat} {f : Nat × Nat} {b off n : Nat} (hb : b < h.size) (hl : off + n ≤ c.length) : rdN (h.setIfInBounds b (.cells c.toArray e f)) b off n = some ((c.drop off).take n) := F4 (F0 hb) hl
def Arr {α : Type} (enc : α → List Value) (sz : Nat) (h : c9) (A : Option Addr) (xs : List α) : Prop :=
 ∀ i (hi : i < xs.length), ∃ b off, A = some ⟨b, off, none⟩ ∧ rdN h b (off + i * sz) sz = some (enc xs[i])
theorem Arr.nil {α : Type} (enc : α → List Value) (sz : Nat) (h : c9) (A : Option Addr) : Arr enc sz h A [] := fun i hi => absurd hi (by simp)
theorem Arr.keep {α : Type} {enc : α → List Value} {sz : Nat} {A : Option Addr} {xs : List α} (ha : Arr enc sz h A xs) (hs : ∀ b off, A = some ⟨b, off, none⟩ → xs ≠ [] → blk h' b = blk h b) : Arr enc sz h' A xs := by
 intro i hi
 obtain ⟨b, off, hA, hr⟩ := ha i hi
 refine ⟨b, off, hA, ?_⟩
 rw [← hr]
 simp only [rdN, hs b off hA (by rintro rfl; simp at hi)]
end
theorem m9 {x : Int} (h0 : -9223372036854775808 ≤ x) (h1 : x < 9223372036854775808) : IntKind.i64.wrap x = x := IntWalk.i64_in _ (by omega)
theorem b7M {x : Int} (h0 : 0 ≤ x) (h1 : x < 256) : IntKind.u8.wrap x = x := by
 simp only [IntKind.wrap, IntKind.signed, IntKind.bits]
 simp
 omega
theorem b5a {x : Int} (h0 : 0 ≤ x) (h1 : x < 4294967296) : IntKind.u32.wrap x = x := by
 simp only [IntKind.wrap, IntKind.signed, IntKind.bits]
 simp
 omega
theorem a8j {x : Int} (h0 : 0 ≤ x) (h1 : x < 18446744073709551616) : IntKind.u64.wrap x = x := by
 simp only [IntKind.wrap, IntKind.signed, IntKind.bits]
 simp
 omega
attribute [go_sem ↓] b3u b2i b7k b4l b8t b8H b5z b4u b5s b4R b7O a8I b6O b3a a8a b4V b2t b2M b7z b7F b8T b7E wp_p wp_r wp_e b0y ev_t ev_c b3W b5E b6E b4n b5i b5Q b7y b6q b3s b0I b8G b9G b7h c0d b4z a9I b5D b4W b4K b5q b5j b7Y b6B b8A b7o b7m b3V b6W b5t b5X b4e b2H b3h b2D a9H b6h b5F b5V a9z b6P b8j b4y b9U b8R c0V e_mk b9u b7C c0T
attribute [go_sem] a9V b1k b2x a6a b0b b3B b2G b5p b3r b6j y7 C0 F0 a0j a7s a7r b0G a9P a2E a7L b0x b0e List.drop_zero List.drop_succ_cons List.take_succ_cons List.take_zero List.take_nil List.drop_nil b0t a9W b0E a9l b0H a7W a9J a7V a9b c0p a7T a7q a7b b1U b1J a7i b3Z b7V b8f b7H b7r b7c b7p b8x b1p a7U b5h b3w dT dF c0B b8F c0U c0A b8C c1a c0P c0Z c0f c0h b4X b5w b9z c0l c0D c0O c1b c0I c0J b4s b3k c0w c0H b8m b7N b9Q b9y b9E b3n b5n b4P b6Q b6J c1c c0E c0b b8Y b3q b3Q b0F b2I b2W b4o b4h b3o b4Y b2m sN sC b7B b7e b8h b8s b7l b7K b8a b4t m9 b7M b5a a8j List.map_cons List.map_nil List.set_cons_zero List.set_cons_succ List.length_cons List.length_nil List.getElem?_cons_zero List.getElem?_cons_succ List.nil_append List.cons_append List.append_nil Array.size_push Array.size_setIfInBounds Option.map_some Option.map_none Option.isNone_none Option.isNone_some Int.toNat_natCast Int.toNat_sub Int.sub_zero Nat.zero_add Nat.add_zero decide_true decide_false Bool.not_true Bool.not_false Bool.true_and Bool.false_and Bool.and_true Bool.and_false Bool.or_true Bool.or_false Bool.true_or Bool.false_or and_self true_and and_true Bool.false_eq_true if_true if_false not_true_eq_false not_false_eq_true ite_true ite_false ne_eq
universe v
theorem Pc {A B : Prop} (a : A) (b : B) : A ∧ B := ⟨a, b⟩
theorem Pd {A B C : Prop} (a : A) (b : B) (c : C) : A ∧ B ∧ C := ⟨a, b, c⟩
theorem Pe {A B C D : Prop} (a : A) (b : B) (c : C) (d : D) : A ∧ B ∧ C ∧ D := ⟨a, b, c, d⟩
theorem Pf {A B C D E : Prop} (a : A) (b : B) (c : C) (d : D) (e : E) : A ∧ B ∧ C ∧ D ∧ E := ⟨a, b, c, d, e⟩
theorem Wa {G H : Prop} (x : H) (z : G = H := by ((try simp (disch := first|omega|assumption|exact l_a rfl) only [go_sem, ↓wBk, simprocAttr]); exact rfl)) : G := (z).mpr x
theorem Wb {A G H : Prop} (a : A) (x : H) (z : A → G = H := by (intro a; (try simp (disch := first|omega|assumption|exact l_a rfl) only [go_sem, ↓wBk, simprocAttr, a]); exact rfl)) : G := (z a).mpr x
theorem Wc {A B G H : Prop} (a : A) (b : B) (x : H) (z : A → B → G = H := by (intro a b; (try simp (disch := first|omega|assumption|exact l_a rfl) only [go_sem, ↓wBk, simprocAttr, a, b]); exact rfl)) : G := (z a b).mpr x
theorem Wd {A B C G H : Prop} (a : A) (b : B) (c : C) (x : H) (z : A → B → C → G = H := by (intro a b c; (try simp (disch := first|omega|assumption|exact l_a rfl) only [go_sem, ↓wBk, simprocAttr, a, b, c]); exact rfl)) : G := (z a b c).mpr x
theorem We {A B C D G H : Prop} (a : A) (b : B) (c : C) (d : D) (x : H) (z : A → B → C → D → G = H := by (intro a b c d; (try simp (disch := first|omega|assumption|exact l_a rfl) only [go_sem, ↓wBk, simprocAttr, a, b, c, d]); exact rfl)) : G := (z a b c d).mpr x
theorem Wf {A B C D E G H : Prop} (a : A) (b : B) (c : C) (d : D) (e : E) (x : H) (z : A → B → C → D → E → G = H := by (intro a b c d e; (try simp (disch := first|omega|assumption|exact l_a rfl) only [go_sem, ↓wBk, simprocAttr, a, b, c, d, e]); exact rfl)) : G := (z a b c d e).mpr x
theorem Wg {A B C D E F G H : Prop} (a : A) (b : B) (c : C) (d : D) (e : E) (f : F) (x : H) (z : A → B → C → D → E → F → G = H := by (intro a b c d e f; (try simp (disch := first|omega|assumption|exact l_a rfl) only [go_sem, ↓wBk, simprocAttr, a, b, c, d, e, f]); exact rfl)) : G := (z a b c d e f).mpr x
theorem Wh {A B C D E F I G H : Prop} (a : A) (b : B) (c : C) (d : D) (e : E) (f : F) (i : I) (x : H) (z : A → B → C → D → E → F → I → G = H := by (intro a b c d e f i; (try simp (disch := first|omega|assumption|exact l_a rfl) only [go_sem, ↓wBk, simprocAttr, a, b, c, d, e, f, i]); exact rfl)) : G := (z a b c d e f i).mpr x
theorem Wi {A B C D E F I J G H : Prop} (a : A) (b : B) (c : C) (d : D) (e : E) (f : F) (i : I) (j : J) (x : H) (z : A → B → C → D → E → F → I → J → G = H := by (intro a b c d e f i j; (try simp (disch := first|omega|assumption|exact l_a rfl) only [go_sem, ↓wBk, simprocAttr, a, b, c, d, e, f, i, j]); exact rfl)) : G := (z a b c d e f i j).mpr x
theorem Xa {G H : Prop} (x : H) (z : G = H := by ((try simp (disch := first | omega | assumption | ((repeat' (first | exact Fr.refl _ _ | assumption | (refine Fr.via (by assumption) ?_ (by intro i hi hm; first | exact hm | exact l_l _ hm | exact absurd hm l_d | (simp only [l_e, l_y, l_d, or_false] at hm ⊢; omega))) | refine Fr.push ?_ _ | (refine Fr.setM ?_ ?_ _; · first | exact l_n | (simp only [l_e, true_or, or_true]; done)) | (refine Fr.setN ?_ ?_ _; · first | omega | (simp only [l_c, l_b]; omega)))); done) | (simp only [l_c, l_b, l_f, l_g, l_e, l_d, or_false, false_or, O2, not_or]; done) | (simp only [l_c, l_b, l_f, l_g, l_e, l_d, or_false, false_or, not_or]; omega)) only [go_sem, ↓wBk, ↓eA, ↓eB, ↓eS, sT, simprocAttr]); exact rfl)) : G := (z).mpr x
theorem Xb {A G H : Prop} (a : A) (x : H) (z : A → G = H := by (intro a; (try simp (disch := first | omega | assumption | ((repeat' (first | exact Fr.refl _ _ | assumption | (refine Fr.via (by assumption) ?_ (by intro i hi hm; first | exact hm | exact l_l _ hm | exact absurd hm l_d | (simp only [l_e, l_y, l_d, or_false] at hm ⊢; omega))) | refine Fr.push ?_ _ | (refine Fr.setM ?_ ?_ _; · first | exact l_n | (simp only [l_e, true_or, or_true]; done)) | (refine Fr.setN ?_ ?_ _; · first | omega | (simp only [l_c, l_b]; omega)))); done) | (simp only [l_c, l_b, l_f, l_g, l_e, l_d, or_false, false_or, O2, not_or]; done) | (simp only [l_c, l_b, l_f, l_g, l_e, l_d, or_false, false_or, not_or]; omega)) only [go_sem, ↓wBk, ↓eA, ↓eB, ↓eS, sT, simprocAttr, a]); exact rfl)) : G := (z a).mpr x
theorem Xc {A B G H : Prop} (a : A) (b : B) (x : H) (z : A → B → G = H := by (intro a b; (try simp (disch := first | omega | assumption | ((repeat' (first | exact Fr.refl _ _ | assumption | (refine Fr.via (by assumption) ?_ (by intro i hi hm; first | exact hm | exact l_l _ hm | exact absurd hm l_d | (simp only [l_e, l_y, l_d, or_false] at hm ⊢; omega))) | refine Fr.push ?_ _ | (refine Fr.setM ?_ ?_ _; · first | exact l_n | (simp only [l_e, true_or, or_true]; done)) | (refine Fr.setN ?_ ?_ _; · first | omega | (simp only [l_c, l_b]; omega)))); done) | (simp only [l_c, l_b, l_f, l_g, l_e, l_d, or_false, false_or, O2, not_or]; done) | (simp only [l_c, l_b, l_f, l_g, l_e, l_d, or_false, false_or, not_or]; omega)) only [go_sem, ↓wBk, ↓eA, ↓eB, ↓eS, sT, simprocAttr, a, b]); exact rfl)) : G := (z a b).mpr x
theorem Xd {A B C G H : Prop} (a : A) (b : B) (c : C) (x : H) (z : A → B → C → G = H := by (intro a b c; (try simp (disch := first | omega | assumption | ((repeat' (first | exact Fr.refl _ _ | assumption | (refine Fr.via (by assumption) ?_ (by intro i hi hm; first | exact hm | exact l_l _ hm | exact absurd hm l_d | (simp only [l_e, l_y, l_d, or_false] at hm ⊢; omega))) | refine Fr.push ?_ _ | (refine Fr.setM ?_ ?_ _; · first | exact l_n | (simp only [l_e, true_or, or_true]; done)) | (refine Fr.setN ?_ ?_ _; · first | omega | (simp only [l_c, l_b]; omega)))); done) | (simp only [l_c, l_b, l_f, l_g, l_e, l_d, or_false, false_or, O2, not_or]; done) | (simp only [l_c, l_b, l_f, l_g, l_e, l_d, or_false, false_or, not_or]; omega)) only [go_sem, ↓wBk, ↓eA, ↓eB, ↓eS, sT, simprocAttr, a, b, c]); exact rfl)) : G := (z a b c).mpr x
theorem Xe {A B C D G H : Prop} (a : A) (b : B) (c : C) (d : D) (x : H) (z : A → B → C → D → G = H := by (intro a b c d; (try simp (disch := first | omega | assumption | ((repeat' (first | exact Fr.refl _ _ | assumption | (refine Fr.via (by assumption) ?_ (by intro i hi hm; first | exact hm | exact l_l _ hm | exact absurd hm l_d | (simp only [l_e, l_y, l_d, or_false] at hm ⊢; omega))) | refine Fr.push ?_ _ | (refine Fr.setM ?_ ?_ _; · first | exact l_n | (simp only [l_e, true_or, or_true]; done)) | (refine Fr.setN ?_ ?_ _; · first | omega | (simp only [l_c, l_b]; omega)))); done) | (simp only [l_c, l_b, l_f, l_g, l_e, l_d, or_false, false_or, O2, not_or]; done) | (simp only [l_c, l_b, l_f, l_g, l_e, l_d, or_false, false_or, not_or]; omega)) only [go_sem, ↓wBk, ↓eA, ↓eB, ↓eS, sT, simprocAttr, a, b, c, d]); exact rfl)) : G := (z a b c d).mpr x
theorem Xf {A B C D E G H : Prop} (a : A) (b : B) (c : C) (d : D) (e : E) (x : H) (z : A → B → C → D → E → G = H := by (intro a b c d e; (try simp (disch := first | omega | assumption | ((repeat' (first | exact Fr.refl _ _ | assumption | (refine Fr.via (by assumption) ?_ (by intro i hi hm; first | exact hm | exact l_l _ hm | exact absurd hm l_d | (simp only [l_e, l_y, l_d, or_false] at hm ⊢; omega))) | refine Fr.push ?_ _ | (refine Fr.setM ?_ ?_ _; · first | exact l_n | (simp only [l_e, true_or, or_true]; done)) | (refine Fr.setN ?_ ?_ _; · first | omega | (simp only [l_c, l_b]; omega)))); done) | (simp only [l_c, l_b, l_f, l_g, l_e, l_d, or_false, false_or, O2, not_or]; done) | (simp only [l_c, l_b, l_f, l_g, l_e, l_d, or_false, false_or, not_or]; omega)) only [go_sem, ↓wBk, ↓eA, ↓eB, ↓eS, sT, simprocAttr, a, b, c, d, e]); exact rfl)) : G := (z a b c d e).mpr x
theorem Xi {A B C D E F I J G H : Prop} (a : A) (b : B) (c : C) (d : D) (e : E) (f : F) (i : I) (j : J) (x : H) (z : A → B → C → D → E → F → I → J → G = H := by (intro a b c d e f i j; (try simp (disch := first | omega | assumption | ((repeat' (first | exact Fr.refl _ _ | assumption | (refine Fr.via (by assumption) ?_ (by intro i hi hm; first | exact hm | exact l_l _ hm | exact absurd hm l_d | (simp only [l_e, l_y, l_d, or_false] at hm ⊢; omega))) | refine Fr.push ?_ _ | (refine Fr.setM ?_ ?_ _; · first | exact l_n | (simp only [l_e, true_or, or_true]; done)) | (refine Fr.setN ?_ ?_ _; · first | omega | (simp only [l_c, l_b]; omega)))); done) | (simp only [l_c, l_b, l_f, l_g, l_e, l_d, or_false, false_or, O2, not_or]; done) | (simp only [l_c, l_b, l_f, l_g, l_e, l_d, or_false, false_or, not_or]; omega)) only [go_sem, ↓wBk, ↓eA, ↓eB, ↓eS, sT, simprocAttr, a, b, c, d, e, f, i, j]); exact rfl)) : G := (z a b c d e f i j).mpr x
theorem iL {n : Nat} : Int.ofNat (no_index (OfNat.ofNat n)) = OfNat.ofNat n := rfl
theorem iN {n : Nat} : Int.negSucc (no_index (OfNat.ofNat n)) = -(OfNat.ofNat n + 1) := rfl
abbrev j5 (P : Program) (f : FuncId) {m : MFn} (h : Z7 P f = some m := by (conv => lhs; reduce; (try dsimp only [iL, iN, Int.reduceAdd]))) : {m : MFn // Z7 P f = some m} := ⟨m, h⟩
theorem EN {P : Program} {f : FuncId} {m : MFn} {pf : Z7 P f = some m} {i : {m : MFn // Z7 P f = some m}} (_ : i = j5 P f pf) {args : List Value} {h0 : c9} {R : Value → c9 → Prop}
  (hk : ∀ K : Value → c9 → Prop, (∀ v h', R v h' → K v h') → mwp P m.code (b6k m.res K) (V8 args) h0) (hl : args.length ≤ m.n := by exact l_a rfl) : d8 P f args h0 R := eK pf hl hk
attribute [go_sem] j5 Option.isSome_none Option.isSome_some Bool.false_beq Bool.true_beq Option.getD_some Option.getD_none
end
end Go.Proofs.YtcgbhcgfdcfmaaaGreat.MX
