import Derived.Test.YtcgbhcgfdcfmaaaGreatK05
namespace Go.Proofs.YtcgbhcgfdcfmaaaGreat.MX
open Go Go.Proofs
set_option linter.unusedSimpArgs false
set_option linter.unusedVariables false
section
universe u
structure Tag {β : Sort u} (k : β) : Type where
def bindT {α : Type} (x : Option α) (K : α → Prop) (_ : Tag K) : Prop := bindO x K
def gateT (b : Bool) (X Y : Prop) (_ : Tag X) (_ : Tag Y) : Prop := gateW b X Y
def condT (v : Value) (X Y : Prop) (_ : Tag X) (_ : Tag Y) : Prop := condW v X Y
def storeT (n : Nat) (a : Value) (cs : List Value) (h : Heap) (K : Value → Heap → Prop) (_ : Tag h) (_ : Tag K) : Prop := cs.length = n ∧ wrW h a cs fun h' => K undef h'
def appT (T sz bytes : Nat) (z : List Value) (x y : Value) (h : Heap) (K : Value → Heap → Prop) (_ : Tag h) (_ : Tag K) : Prop := appW T sz bytes z x y h K
def copyT (sz : Nat) (x y : Value) (h : Heap) (K : Value → Heap → Prop) (_ : Tag h) (_ : Tag K) : Prop := copyW sz x y h K
def s2bT (T : Nat) (x : Value) (h : Heap) (K : Value → Heap → Prop) (_ : Tag h) (_ : Tag K) : Prop := s2bW T x h K
def mkT (T bytes : Nat) (z : List Value) (l c : Value) (h : Heap) (K : Value → Heap → Prop) (_ : Tag h) (_ : Tag K) : Prop := mkW T bytes z l c h K
def callT (P : Program) (f : FuncId) (args : List Value) (h : Heap) (K : Value → Heap → Prop) (_ : Tag h) (_ : Tag K) : Prop := CallsH P f args h K
def callvT (P : Program) (x : Value) (args : List Value) (h : Heap) (K : Value → Heap → Prop) (_ : Tag h) (_ : Tag K) : Prop := callvW P x args h K
def anyT (P : Program) (o : Oper) (ρ : Env) (h : Heap) (K : Value → Heap → Prop) (_ : Tag ρ) (_ : Tag h) (_ : Tag K) : Prop := Eff.wp P ρ h K (.any o)
def loopT (P : Program) (c : MCode) (Q : MExit → Env → Heap → Prop) (ρ : Env) (h : Heap) (_ : Tag c) (_ : Tag Q) (_ : Tag ρ) (_ : Tag h) : Prop := mwp P (.loop c) Q ρ h
def drawT (P : Program) (l : List MOper) (s : Sch) (Q : MExit → Env → Heap → Prop) (ρ : Env) (h : Heap) (_ : Tag l) (_ : Tag s) (_ : Tag Q) (_ : Tag ρ) (_ : Tag h) : Prop := mwp P (.draw l s) Q ρ h
section
variable {P : Program} {Q : MExit → Env → Heap → Prop} {ρ : Env} {h : Heap} {K : Value → Heap → Prop} {C : Env → Heap → Prop}
theorem mwp_skip : mwp P .skip Q ρ h = Q .normal ρ h := (_root_.id rfl)
theorem mwp_ops {l : List MOper} : mwp P (.ops l) Q ρ h = opsWp P l (Q .normal) ρ h := (_root_.id rfl)
theorem mwp_seq {a b : MCode} : mwp P (.seq a b) Q ρ h = mwp P a (qseq (mwp P b Q) Q) ρ h := (_root_.id rfl)
theorem mwp_cond {c : Opd} {x y : MCode} : mwp P (.cond c x y) Q ρ h = condT (ev ρ c) (mwp P x Q ρ h) (mwp P y Q ρ h) ⟨⟩ ⟨⟩ := (_root_.id rfl)
theorem mwp_loop {c : MCode} : mwp P (.loop c) Q ρ h = loopT P c Q ρ h ⟨⟩ ⟨⟩ ⟨⟩ ⟨⟩ := (_root_.id rfl)
theorem mwp_draw {l : List MOper} {s : Sch} : mwp P (.draw l s) Q ρ h = drawT P l s Q ρ h ⟨⟩ ⟨⟩ ⟨⟩ ⟨⟩ ⟨⟩ := (_root_.id rfl)
theorem wBk {id : Nat} {c : MCode} : mwp P (.block id c) Q ρ h = mwp P c (qblk id Q) ρ h := (_root_.id rfl)
theorem mwp_exit {id : Nat} : mwp P (.exit id) Q ρ h = Q (.exit id) ρ h := (_root_.id rfl)
theorem mwp_ret : mwp P .ret Q ρ h = Q .ret ρ h := (_root_.id rfl)
theorem qseq_normal {k : Env → Heap → Prop} : qseq k Q .normal = k := (_root_.id rfl)
theorem qseq_ret {k : Env → Heap → Prop} : qseq k Q .ret = Q .ret := (_root_.id rfl)
theorem qseq_exit {k : Env → Heap → Prop} {id : Nat} : qseq k Q (.exit id) = Q (.exit id) := (_root_.id rfl)
theorem qblk_normal {id : Nat} : qblk id Q .normal = Q .normal := (_root_.id rfl)
theorem qblk_ret {id : Nat} : qblk id Q .ret = Q .ret := (_root_.id rfl)
theorem qblk_exit {id i : Nat} : qblk id Q (.exit i) = if i = id then Q .normal else Q (.exit i) := by
 funext ρ h; simp only [qblk]; split <;> rfl
theorem opsWp_nil : opsWp P [] C ρ h = C ρ h := (_root_.id rfl)
theorem opsWp_p {d : Option Nat} {x : Pure} {os : List MOper} : opsWp P (⟨d, .p x, none⟩ :: os) C ρ h = bindT (x.val ρ) (fun v => opsWp P os C (updO ρ d v) h) ⟨⟩ := by
 simp [opsWp, gateW, wantB, MOp.wp, bindT]
theorem opsWp_r {d : Option Nat} {x : Read} {os : List MOper} : opsWp P (⟨d, .r x, none⟩ :: os) C ρ h = bindT (x.val ρ h) (fun v => opsWp P os C (updO ρ d v) h) ⟨⟩ := by
 simp [opsWp, gateW, wantB, MOp.wp, bindT]
theorem opsWp_e {d : Option Nat} {x : Eff} {os : List MOper} : opsWp P (⟨d, .e x, none⟩ :: os) C ρ h = x.wp P ρ h fun v h' => opsWp P os C (updO ρ d v) h' := by
 simp [opsWp, gateW, wantB, MOp.wp]
theorem opsWp_g {d : Option Nat} {x : MOp} {g : Nat × Bool} {os : List MOper} : opsWp P (⟨d, x, some g⟩ :: os) C ρ h = gateT (wantB ρ (some g)) (x.wp P ρ h fun v h' => opsWp P os C (updO ρ d v) h') (opsWp P os C (updO ρ d undef) h) ⟨⟩ ⟨⟩ := (_root_.id rfl)
theorem wp_p {x : Pure} : MOp.wp P ρ h K (.p x) = bindT (x.val ρ) (fun v => K v h) ⟨⟩ := (_root_.id rfl)
theorem wp_r {x : Read} : MOp.wp P ρ h K (.r x) = bindT (x.val ρ h) (fun v => K v h) ⟨⟩ := (_root_.id rfl)
theorem wp_e {x : Eff} : MOp.wp P ρ h K (.e x) = x.wp P ρ h K := (_root_.id rfl)
def wantV (v : Value) (b : Bool) : Bool := match v with | .bool c => c == b | _ => false
theorem wantB_some {s : Nat} {b : Bool} : wantB ρ (some (s, b)) = wantV (ρ s) b := (_root_.id rfl)
theorem wantV_true {c : Bool} : wantV (.bool c) true = c := by cases c <;> rfl
theorem wantV_false {c : Bool} : wantV (.bool c) false = !c := by cases c <;> rfl
theorem wantV_undef {b : Bool} : wantV undef b = false := (_root_.id rfl)
theorem ev_t {n : Nat} : ev ρ (.t n) = ρ n := (_root_.id rfl)
theorem ev_c {v : Value} : ev ρ (.c v) = v := (_root_.id rfl)
theorem upd_app {d t : Nat} {v : Value} : upd ρ d v t = if t = d then v else ρ t := (_root_.id rfl)
theorem condT_true {X Y : Prop} {s : Tag X} {t : Tag Y} : condT (.bool true) X Y s t = X := by simp [condT, condW]
theorem condT_false {X Y : Prop} {s : Tag X} {t : Tag Y} : condT (.bool false) X Y s t = Y := by simp [condT, condW]
theorem gateT_true {X Y : Prop} {s : Tag X} {t : Tag Y} : gateT true X Y s t = X := by simp [gateT, gateW]
theorem gateT_false {X Y : Prop} {s : Tag X} {t : Tag Y} : gateT false X Y s t = Y := by simp [gateT, gateW]
theorem bindT_some {α : Type} {v : α} {K : α → Prop} {t : Tag K} : bindT (some v) K t = K v := (_root_.id rfl)
theorem argEnv_0 {v : Value} {vs : List Value} : argEnv (v :: vs) 0 = v := (_root_.id rfl)
theorem argEnv_1 {a v : Value} {vs : List Value} : argEnv (a :: v :: vs) 1 = v := (_root_.id rfl)
theorem argEnv_2 {a b v : Value} {vs : List Value} : argEnv (a :: b :: v :: vs) 2 = v := (_root_.id rfl)
theorem argEnv_3 {a b c v : Value} {vs : List Value} : argEnv (a :: b :: c :: v :: vs) 3 = v := (_root_.id rfl)
theorem argEnv_4 {a b c d v : Value} {vs : List Value} : argEnv (a :: b :: c :: d :: v :: vs) 4 = v := (_root_.id rfl)
theorem argEnv_5 {a b c d e v : Value} {vs : List Value} : argEnv (a :: b :: c :: d :: e :: v :: vs) 5 = v := (_root_.id rfl)
-- pure operations
theorem val_mov {x : Opd} : Pure.val ρ (.mov x) = some (ev ρ x) := (_root_.id rfl)
theorem val_pick {c a b : Opd} : Pure.val ρ (.pick c a b) = pickV (ev ρ c) (ev ρ a) (ev ρ b) := (_root_.id rfl)
theorem val_build {z : List Value} {ps : List (Nat × Nat × Opd)} : Pure.val ρ (.build z ps) = bindV (fillL z (ps.map fun p => (p.1, p.2.1, ev ρ p.2.2))) fun cs => some (.agg cs.toArray) := (_root_.id rfl)
theorem val_nilchk {x : Opd} : Pure.val ρ (.nilchk x) = nilV (ev ρ x) := (_root_.id rfl)
theorem val_bin {op : BinOp} {x y : Opd} : Pure.val ρ (.bin op x y) = binV op (ev ρ x) (ev ρ y) := (_root_.id rfl)
theorem val_eq {k : EK} {n : Bool} {x y : Opd} : Pure.val ρ (.eq k n x y) = bindV (eqV k (ev ρ x) (ev ρ y)) fun b => some (.bool (if n then !b else b)) := (_root_.id rfl)
theorem val_un {op : UnOp} {x : Opd} : Pure.val ρ (.un op x) = unV op (ev ρ x) := (_root_.id rfl)
theorem val_conv {k : IntKind} {x : Opd} : Pure.val ρ (.conv k x) = convV k (ev ρ x) := (_root_.id rfl)
theorem val_addOff {x : Opd} {n : Nat} : Pure.val ρ (.addOff x n) = addOffV (ev ρ x) n := (_root_.id rfl)
theorem val_idxS {sz : Nat} {x i : Opd} : Pure.val ρ (.idxS sz x i) = idxSV sz (ev ρ x) (ev ρ i) := (_root_.id rfl)
theorem val_idxA {ln sz : Nat} {x i : Opd} : Pure.val ρ (.idxA ln sz x i) = idxAV ln sz (ev ρ x) (ev ρ i) := (_root_.id rfl)
theorem val_cutS {sz : Nat} {x : Opd} {lo hi mx : Option Opd} : Pure.val ρ (.cutS sz x lo hi mx) = sliceSV sz (ev ρ x) (lo.map (ev ρ)) (hi.map (ev ρ)) (mx.map (ev ρ)) := (_root_.id rfl)
theorem val_cutA {n sz : Nat} {x : Opd} {lo hi mx : Option Opd} : Pure.val ρ (.cutA n sz x lo hi mx) = sliceAV n sz (ev ρ x) (lo.map (ev ρ)) (hi.map (ev ρ)) (mx.map (ev ρ)) := (_root_.id rfl)
theorem val_cutT {x : Opd} {lo hi : Option Opd} : Pure.val ρ (.cutT x lo hi) = sliceTV (ev ρ x) (lo.map (ev ρ)) (hi.map (ev ρ)) := (_root_.id rfl)
theorem val_len {s : Bool} {x : Opd} : Pure.val ρ (.len s x) = lenV s (ev ρ x) := (_root_.id rfl)
theorem val_lenA {n : Nat} : Pure.val ρ (.lenA n) = some (.int .i64 n) := (_root_.id rfl)
theorem val_cap {x : Opd} : Pure.val ρ (.cap x) = capV (ev ρ x) := (_root_.id rfl)
theorem val_min {x : Opd} {ys : List Opd} : Pure.val ρ (.min x ys) = foldV minV (ev ρ x) (ys.map (ev ρ)) := (_root_.id rfl)
theorem val_max {x : Opd} {ys : List Opd} : Pure.val ρ (.max x ys) = foldV maxV (ev ρ x) (ys.map (ev ρ)) := (_root_.id rfl)
theorem val_field {off n : Nat} {g : Bool} {x : Opd} : Pure.val ρ (.field off n g x) = fieldV off n g (ev ρ x) := (_root_.id rfl)
theorem val_idxG {ln sz : Nat} {g : Bool} {x i : Opd} : Pure.val ρ (.idxG ln sz g x i) = idxGV ln sz g (ev ρ x) (ev ρ i) := (_root_.id rfl)
theorem val_idxT {x i : Opd} : Pure.val ρ (.idxT x i) = idxTV (ev ρ x) (ev ρ i) := (_root_.id rfl)
theorem val_extr {x : Opd} {i : Nat} : Pure.val ρ (.extr x i) = extrV (ev ρ x) i := (_root_.id rfl)
theorem val_func {f : Fn} {a b : List Opd} : Pure.val ρ (.func f a b) = some (.func f (a.map (ev ρ)).toArray (b.map (ev ρ)).toArray) := (_root_.id rfl)
theorem val_load1 {a : Opd} : Read.val ρ h (.load1 a) = rd1 h (ev ρ a) := (_root_.id rfl)
theorem val_loadN {n : Nat} {a : Opd} : Read.val ρ h (.loadN n a) = bindV (rdA h (ev ρ a) n) fun cs => some (.agg cs.toArray) := (_root_.id rfl)
-- values
noncomputable def dcd (p : Prop) : Bool := @decide p (Classical.propDecidable p)
theorem dcd_eq (p : Prop) [i : Decidable p] : dcd p = decide p := by
 unfold dcd
 exact decide_eq_decide.2 Iff.rfl
theorem dcd_True : dcd True = true := by rw [dcd_eq]; rfl
theorem dcd_False : dcd False = false := by rw [dcd_eq]; rfl
theorem of_dcd_true {p : Prop} (h : dcd p = true) : p := @of_decide_eq_true p (Classical.propDecidable p) h
theorem of_dcd_false {p : Prop} (h : dcd p = false) : ¬ p := @of_decide_eq_false p (Classical.propDecidable p) h
theorem dT {p : Prop} (h : p) : dcd p = true := @decide_eq_true p (Classical.propDecidable p) h
theorem dF {p : Prop} (h : ¬ p) : dcd p = false := @decide_eq_false p (Classical.propDecidable p) h
theorem bin_add {k : IntKind} {a b : Int} : binV .add (.int k a) (.int k b) = some (.int k (k.wrap (a + b))) := by simp [binV, intBin]
theorem bin_sub {k : IntKind} {a b : Int} : binV .sub (.int k a) (.int k b) = some (.int k (k.wrap (a - b))) := by simp [binV, intBin]
theorem bin_mul {k : IntKind} {a b : Int} : binV .mul (.int k a) (.int k b) = some (.int k (k.wrap (a * b))) := by simp [binV, intBin]
theorem bin_quo {k : IntKind} {a b : Int} (hb : b ≠ 0) : binV .quo (.int k a) (.int k b) = some (.int k (k.wrap (a.tdiv b))) := by simp [binV, intBin, hb]
theorem bin_rem {k : IntKind} {a b : Int} (hb : b ≠ 0) : binV .rem (.int k a) (.int k b) = some (.int k (a.tmod b)) := by simp [binV, intBin, hb]
theorem bin_and {k : IntKind} {a b : Int} : binV .and (.int k a) (.int k b) = some (.int k (k.wrap (BitVec.ofInt k.bits a &&& BitVec.ofInt k.bits b).toNat)) := by simp [binV, intBin]
theorem bin_or {k : IntKind} {a b : Int} : binV .or (.int k a) (.int k b) = some (.int k (k.wrap (BitVec.ofInt k.bits a ||| BitVec.ofInt k.bits b).toNat)) := by simp [binV, intBin]
theorem bin_xor {k : IntKind} {a b : Int} : binV .xor (.int k a) (.int k b) = some (.int k (k.wrap (BitVec.ofInt k.bits a ^^^ BitVec.ofInt k.bits b).toNat)) := by simp [binV, intBin]
theorem bin_eql {k : IntKind} {a b : Int} : binV .eql (.int k a) (.int k b) = some (.bool (dcd (a = b))) := by simp [binV, intBin, dcd_eq, bne]; rfl
theorem bin_neq {k : IntKind} {a b : Int} : binV .neq (.int k a) (.int k b) = some (.bool (!dcd (a = b))) := by simp [binV, intBin, dcd_eq, bne]; rfl
theorem bin_lss {k : IntKind} {a b : Int} : binV .lss (.int k a) (.int k b) = some (.bool (dcd (a < b))) := by simp [binV, intBin, dcd_eq, bne]
theorem bin_leq {k : IntKind} {a b : Int} : binV .leq (.int k a) (.int k b) = some (.bool (dcd (a ≤ b))) := by simp [binV, intBin, dcd_eq, bne]
theorem bin_gtr {k : IntKind} {a b : Int} : binV .gtr (.int k a) (.int k b) = some (.bool (dcd (b < a))) := by simp [binV, intBin, dcd_eq, bne]
theorem bin_geq {k : IntKind} {a b : Int} : binV .geq (.int k a) (.int k b) = some (.bool (dcd (b ≤ a))) := by simp [binV, intBin, dcd_eq, bne]
theorem bin_shl {k k' : IntKind} {a b : Int} (hb : 0 ≤ b) : binV .shl (.int k a) (.int k' b) = some (.int k (k.wrap (a * 2 ^ (min b.toNat k.bits)))) := by simp [binV, Int.not_lt.2 hb]
theorem bin_shr {k k' : IntKind} {a b : Int} (hb : 0 ≤ b) : binV .shr (.int k a) (.int k' b) = some (.int k (a.fdiv (2 ^ (min b.toNat k.bits)))) := by simp [binV, Int.not_lt.2 hb]
theorem eq_bool {a b : Bool} : eqV .b (.bool a) (.bool b) = some (a == b) := (_root_.id rfl)
theorem eqA_g {ks : List CK} {xs ys : List Value} : eqAV ks (.agg xs.toArray) (.agg ys.toArray) = eqK ks xs ys := by simp [eqAV]
theorem eqK_nil : eqK [] [] [] = some true := rfl
theorem eqK_i {ks : List CK} {k : IntKind} {a b : Int} {xs ys : List Value} : eqK (.i :: ks) (.int k a :: xs) (.int k b :: ys) = bindV (eqK ks xs ys) fun c => some (dcd (a = b) && c) := by
 simp only [eqK, cellEq, if_true, bindV, dcd_eq]; rfl
theorem eqK_b {ks : List CK} {a b : Bool} {xs ys : List Value} : eqK (.b :: ks) (.bool a :: xs) (.bool b :: ys) = bindV (eqK ks xs ys) fun c => some ((a == b) && c) := by
 simp only [eqK, cellEq, bindV]
theorem val_eqA {ks : List CK} {n : Bool} {x y : Opd} : Pure.val ρ (.eqA ks n x y) = bindV (eqAV ks (ev ρ x) (ev ρ y)) fun b => some (.bool (if n then !b else b)) := (_root_.id rfl)
theorem eq_pn {a : Option Addr} : eqV .p (.pointer a) (.pointer none) = some a.isNone := by cases a <;> rfl
theorem eq_np {a : Option Addr} : eqV .p (.pointer none) (.pointer a) = some a.isNone := (_root_.id rfl)
theorem eq_sn {a : Option Addr} {n c m d : Nat} : eqV .s (.slice a n c) (.slice none m d) = some a.isNone := by cases a <;> rfl
theorem un_neg {k : IntKind} {a : Int} : unV .neg (.int k a) = some (.int k (k.wrap (0 - a))) := (_root_.id rfl)
theorem un_not {a : Bool} : unV .not (.bool a) = some (.bool (!a)) := (_root_.id rfl)
theorem conv_int {k k' : IntKind} {a : Int} : convV k (.int k' a) = some (.int k (k.wrap a)) := (_root_.id rfl)
theorem addOff_p {b off n : Nat} : addOffV (.pointer (some ⟨b, off, none⟩)) n = some (.pointer (some ⟨b, off + n, none⟩)) := by simp [addOffV, add_none]
theorem idxS_p {sz b off n c : Nat} {k : IntKind} {i : Int} (h0 : 0 ≤ i) (h1 : i < n) : idxSV sz (.slice (some ⟨b, off, none⟩) n c) (.int k i) = some (.pointer (some ⟨b, off + i.toNat * sz, none⟩)) := by simp [idxSV, h0, h1, add_none]
theorem idxA_p {ln sz b off : Nat} {k : IntKind} {i : Int} (h0 : 0 ≤ i) (h1 : i < ln) : idxAV ln sz (.pointer (some ⟨b, off, none⟩)) (.int k i) = some (.pointer (some ⟨b, off + i.toNat * sz, none⟩)) := by simp [idxAV, h0, h1, add_none]
theorem len_s {s : ByteArray} : lenV true (.string s) = some (.int .i64 s.size) := (_root_.id rfl)
theorem len_l {a : Option Addr} {n c : Nat} : lenV false (.slice a n c) = some (.int .i64 n) := (_root_.id rfl)
theorem cap_l {a : Option Addr} {n c : Nat} : capV (.slice a n c) = some (.int .i64 c) := (_root_.id rfl)
theorem min_i {k k' : IntKind} {x y : Int} : minV (.int k x) (.int k' y) = some (.int k (if y < x then y else x)) := (_root_.id rfl)
theorem max_i {k k' : IntKind} {x y : Int} : maxV (.int k x) (.int k' y) = some (.int k (if y > x then y else x)) := (_root_.id rfl)
theorem fold_nil {f : Value → Value → Option Value} {x : Value} : foldV f x [] = some x := (_root_.id rfl)
theorem fold_cons {f : Value → Value → Option Value} {x y : Value} {ys : List Value} : foldV f x (y :: ys) = bindV (f x y) fun z => foldV f z ys := (_root_.id rfl)
theorem pick_b {c : Bool} {a b : Value} : pickV (.bool c) a b = some (if c then a else b) := (_root_.id rfl)
theorem nil_p {a : Addr} : nilV (.pointer (some a)) = some (.pointer (some a)) := (_root_.id rfl)
theorem extr_t {vs : List Value} {i : Nat} : extrV (.tuple vs.toArray) i = vs[i]? := by simp [extrV]
theorem field_1 {off n : Nat} {l : List Value} : fieldV off n false (.agg l.toArray) = l[off]? := by simp [fieldV]
theorem field_g {off n : Nat} {l : List Value} : fieldV off n true (.agg l.toArray) = some (.agg ((l.drop off).take n).toArray) := by
 have : (List.take (off + n - off) (List.drop off l)) = (l.drop off).take n := by congr 1; omega
 simp [fieldV, this]
theorem idxG_1 {ln sz : Nat} {l : List Value} {k : IntKind} {i : Int} (h0 : 0 ≤ i) (h1 : i < ln) : idxGV ln sz false (.agg l.toArray) (.int k i) = l[i.toNat * sz]? := by simp [idxGV, h0, h1]
theorem idxG_g {ln sz : Nat} {l : List Value} {k : IntKind} {i : Int} (h0 : 0 ≤ i) (h1 : i < ln) : idxGV ln sz true (.agg l.toArray) (.int k i) = some (.agg ((l.drop (i.toNat * sz)).take sz).toArray) := by
 have : (List.take (i.toNat * sz + sz - i.toNat * sz) (List.drop (i.toNat * sz) l)) = (l.drop (i.toNat * sz)).take sz := by congr 1; omega
 simp [idxGV, h0, h1, this]
theorem bnd_none {d : Nat} : bnd none d = some (d : Int) := (_root_.id rfl)
theorem bnd_some {k : IntKind} {i : Int} {d : Nat} : bnd (some (.int k i)) d = some i := (_root_.id rfl)
theorem sliceS_l {sz : Nat} {a : Option Addr} {len cap : Nat} {lo hi mx : Option Value} : sliceSV sz (.slice a len cap) lo hi mx = bindV (bnd lo 0) fun l => bindV (bnd hi len) fun h => bindV (bnd mx cap) fun m => cutV a sz l h m cap := (_root_.id rfl)
theorem sliceA_p {n sz : Nat} {a : Addr} {lo hi mx : Option Value} : sliceAV n sz (.pointer (some a)) lo hi mx = bindV (bnd lo 0) fun l => bindV (bnd hi n) fun h => bindV (bnd mx n) fun m => cutV (some a) sz l h m n := (_root_.id rfl)
theorem cut_ok {a : Option Addr} {sz : Nat} {l h m cap : Int} (c0 : 0 ≤ l) (c1 : l ≤ h) (c2 : h ≤ m) (c3 : m ≤ cap) : cutV a sz l h m cap = some (.slice (if m = l then a else a.map (·.add (l.toNat * sz))) (h - l).toNat (m - l).toNat) := by simp [cutV, c0, c1, c2, c3]
theorem cast0 : ((0 : Nat) : Int) = 0 := (_root_.id rfl)
theorem bnd_none0 : bnd none 0 = some 0 := (_root_.id rfl)
theorem cut_0 {a : Option Addr} {sz : Nat} {h m cap : Int} (c1 : 0 ≤ h) (c2 : h ≤ m) (c3 : m ≤ cap) : cutV a sz 0 h m cap = some (.slice a h.toNat m.toNat) := by
 have e : (a.map fun x => x.add 0) = a := by cases a <;> simp [Addr.add]
 simp [cutV, c1, c2, c3, e]
theorem cut_lt {b off sz : Nat} {l h m cap : Int} (c0 : 0 ≤ l) (c1 : l ≤ h) (c2 : h ≤ m) (c3 : m ≤ cap) (hlt : l < m) : cutV (some ⟨b, off, none⟩) sz l h m cap = some (.slice (some ⟨b, off + l.toNat * sz, none⟩) (h - l).toNat (m - l).toNat) := by
 simp [cutV, c0, c1, c2, c3, add_none, show ¬ (m = l) by omega]
theorem cut_end {a : Option Addr} {sz : Nat} {l h m cap : Int} (c0 : 0 ≤ l) (c1 : l = h) (c2 : h = m) (c3 : m ≤ cap) : cutV a sz l h m cap = some (.slice a 0 0) := by
 subst c1 c2
 simp [cutV, c0, c3]
theorem cells_agg {l : List Value} : cellsOf (.agg l.toArray) = l := by simp [cellsOf, Value.cells]
theorem cells_int {k : IntKind} {n : Int} : cellsOf (.int k n) = [.int k n] := (_root_.id rfl)
theorem cells_bool {b : Bool} : cellsOf (.bool b) = [.bool b] := (_root_.id rfl)
theorem cells_str {s : ByteArray} : cellsOf (.string s) = [.string s] := (_root_.id rfl)
theorem cells_ptr {a : Option Addr} : cellsOf (.pointer a) = [.pointer a] := (_root_.id rfl)
theorem cells_sl {a : Option Addr} {n c : Nat} : cellsOf (.slice a n c) = [.slice a n c] := (_root_.id rfl)
theorem cells_fn {f : Fn} {a b : Array Value} : cellsOf (.func f a b) = [.func f a b] := (_root_.id rfl)
theorem cells_map {a : Option Nat} : cellsOf (.map a) = [.map a] := (_root_.id rfl)
theorem fill_nil {z : List Value} : fillL z [] = some z := (_root_.id rfl)
theorem fill_cons {z : List Value} {off size : Nat} {v : Value} {rest : List (Nat × Nat × Value)} : fillL z ((off, size, v) :: rest) = if (cellsOf v).length = size ∧ off + size ≤ z.length then fillL (splice z off (cellsOf v)) rest else none := (_root_.id rfl)
theorem sN {c : List Value} {off : Nat} : splice c off [] = c := (_root_.id rfl)
theorem sC {c : List Value} {off : Nat} {v : Value} {vs : List Value} : splice c off (v :: vs) = splice (c.set off v) (off + 1) vs := (_root_.id rfl)
theorem zeros_0 {z : List Value} : zerosL z 0 = [] := (_root_.id rfl)
theorem zeros_1 {z : List Value} : zerosL z 1 = z := by simp [zerosL]
-- results
theorem resVs_nil : resVs ρ h [] = some [] := (_root_.id rfl)
theorem resVs_cons {r : MRes} {rs : List MRes} : resVs ρ h (r :: rs) = bindV (resV ρ h r) fun v => bindV (resVs ρ h rs) fun vs => some (v :: vs) := (_root_.id rfl)
theorem resV_tmp {t : Nat} : resV ρ h (.tmp t) = some (ρ t) := (_root_.id rfl)
theorem resV_one {t n : Nat} : resV ρ h (.cell t n false) = rd1 h (ρ t) := (_root_.id rfl)
theorem resV_agg {t n : Nat} : resV ρ h (.cell t n true) = bindV (rdA h (ρ t) n) fun cs => some (.agg cs.toArray) := (_root_.id rfl)
theorem retW_normal {rs : List MRes} {R : Value → Heap → Prop} : retW rs R .normal ρ h = bindT (resVs ρ h rs) (fun vs => R (oneOf vs) h) ⟨⟩ := (_root_.id rfl)
theorem retW_ret {rs : List MRes} {R : Value → Heap → Prop} : retW rs R .ret ρ h = bindT (resVs ρ h rs) (fun vs => R (oneOf vs) h) ⟨⟩ := (_root_.id rfl)
theorem oneOf_1 {v : Value} : oneOf [v] = v := (_root_.id rfl)
theorem oneOf_2 {v u : Value} : oneOf [v, u] = .tuple #[v, u] := (_root_.id rfl)
theorem oneOf_3 {v u x : Value} : oneOf [v, u, x] = .tuple #[v, u, x] := (_root_.id rfl)
theorem oneOf_4 {v u x y : Value} : oneOf [v, u, x, y] = .tuple #[v, u, x, y] := (_root_.id rfl)
theorem oneOf_0 : oneOf [] = .tuple #[] := (_root_.id rfl)
-- effects
theorem eA {T : Nat} {z : List Value} : Eff.wp P ρ h K (.alloc T z) = K (.pointer (some ⟨h.size, 0, none⟩)) (h.push (.cells z.toArray T (0, 0))) := (_root_.id rfl)
theorem eB {T : Nat} {x : Opd} : Eff.wp P ρ h K (.box T x) = K (.pointer (some ⟨h.size, 0, none⟩)) (h.push (.cells (cellsOf (ev ρ x)).toArray T (0, 0))) := (_root_.id rfl)
theorem eS {T len : Nat} {z : List Value} {ps : List (Nat × Nat × Opd)} : Eff.wp P ρ h K (.bslice T len z ps) = bindT (fillL (zerosL z len) (ps.map fun p => (p.1, p.2.1, ev ρ p.2.2))) (fun cs =>
   K (.slice (some ⟨h.size, 0, none⟩) len len) (h.push (.cells cs.toArray T (0, 0)))) ⟨⟩ := (_root_.id rfl)
theorem e_store {n : Nat} {a x : Opd} : Eff.wp P ρ h K (.store n a x) = storeT n (ev ρ a) (cellsOf (ev ρ x)) h K ⟨⟩ ⟨⟩ := (_root_.id rfl)
theorem e_append {T sz bytes : Nat} {z : List Value} {x y : Opd} : Eff.wp P ρ h K (.append T sz bytes z x y) = appT T sz bytes z (ev ρ x) (ev ρ y) h K ⟨⟩ ⟨⟩ := (_root_.id rfl)
theorem e_copy {sz : Nat} {x y : Opd} : Eff.wp P ρ h K (.copy sz x y) = copyT sz (ev ρ x) (ev ρ y) h K ⟨⟩ ⟨⟩ := (_root_.id rfl)
theorem e_s2b {T : Nat} {x : Opd} : Eff.wp P ρ h K (.s2b T x) = s2bT T (ev ρ x) h K ⟨⟩ ⟨⟩ := (_root_.id rfl)
theorem e_mk {T sz bytes : Nat} {z : List Value} {l c : Opd} : Eff.wp P ρ h K (.mkslice T sz bytes z l c) = mkT T bytes z (ev ρ l) (ev ρ c) h K ⟨⟩ ⟨⟩ := (_root_.id rfl)
def clearT (zero : List Value) (x : Value) (h : Heap) (K : Value → Heap → Prop) (_ : Tag h) (_ : Tag K) : Prop := clearW zero x h K
theorem e_clear {sz : Nat} {z : List Value} {x : Opd} : Eff.wp P ρ h K (.clear sz z x) = clearT z (ev ρ x) h K ⟨⟩ ⟨⟩ := (_root_.id rfl)
theorem e_call {f : FuncId} {args : List Opd} : Eff.wp P ρ h K (.call f args) = callT P f (args.map (ev ρ)) h K ⟨⟩ ⟨⟩ := (_root_.id rfl)
theorem e_callv {x : Opd} {args : List Opd} : Eff.wp P ρ h K (.callv x args) = callvT P (ev ρ x) (args.map (ev ρ)) h K ⟨⟩ ⟨⟩ := (_root_.id rfl)
theorem e_any {o : Oper} : Eff.wp P ρ h K (.any o) = anyT P o ρ h K ⟨⟩ ⟨⟩ ⟨⟩ := (_root_.id rfl)
theorem callv_ok' {f : FuncId} {a b : List Value} {args : List Value} {s : Tag h} {t : Tag K} (hok : okFn P f = true) (hc : CallsH P f (a ++ args ++ b) h K) : callvT P (.func (.func f) a.toArray b.toArray) args h K s t := by
 simp only [callvT, callvW]
 exact ⟨hok, by simpa using hc⟩
theorem cI {f : FuncId} {args : List Value} {s : Tag h} {t : Tag K} {R : Value → Heap → Prop} (hc : CallsH P f args h R) (hk : ∀ v h', R v h' → K v h') : callT P f args h K s t := hc.mono hk
-- stores
def bind3 (x : Option (List Value × Nat × (Nat × Nat))) (K : List Value → Nat → Nat × Nat → Prop) (_ : Tag K) : Prop := match x with | some (c, e, f) => K c e f | none => False
theorem bind3_some {c : List Value} {e : Nat} {f : Nat × Nat} {K : List Value → Nat → Nat × Nat → Prop} {t : Tag K} : bind3 (some (c, e, f)) K t = K c e f := rfl
def room (off l n : Nat) (f : Nat × Nat) : Prop := off + l ≤ n ∧ (f.2 ≤ f.1 ∨ off + l ≤ f.1 ∨ f.2 ≤ off)
theorem room_00 {off l n : Nat} (hl : off + l ≤ n) : room off l n (0, 0) = True := by simp [room, hl]
theorem sT {n b off : Nat} {cs : List Value} {s : Tag h} {t : Tag K} : storeT n (.pointer (some ⟨b, off, none⟩)) cs h K s t =
  bind3 (blk h b) (fun c e f => (cs.length = n ∧ pC cs = true ∧ room off cs.length c.length f) ∧ K undef (h.setIfInBounds b (.cells (splice c off cs).toArray e f))) ⟨⟩ := by
 simp only [storeT, wrW, bind3, room]
 apply propext
 constructor
 ·rintro ⟨h1, h2⟩
  split at h2
  ·rename_i c e f hb
   rw [hb]
   exact ⟨⟨h1, h2.1.2.2, h2.1.1, h2.1.2.1⟩, h2.2⟩
  ·exact h2.elim
 ·intro h2
  split at h2
  ·rename_i c e f hb
   rw [hb]
   exact ⟨h2.1.1, ⟨h2.1.2.2.1, h2.1.2.2.2, h2.1.2.1⟩, h2.2⟩
  ·exact h2.elim
theorem plain_nil : pC [] = true := rfl
theorem plain_int {k : IntKind} {n : Int} {vs : List Value} : pC (.int k n :: vs) = pC vs := by simp [pC, Value.oneCell']
theorem plain_bool {b : Bool} {vs : List Value} : pC (.bool b :: vs) = pC vs := by simp [pC, Value.oneCell']
theorem plain_str {b : ByteArray} {vs : List Value} : pC (.string b :: vs) = pC vs := by simp [pC, Value.oneCell']
theorem plain_ptr {a : Option Addr} {vs : List Value} : pC (.pointer a :: vs) = pC vs := by simp [pC, Value.oneCell']
theorem plain_sl {a : Option Addr} {n c : Nat} {vs : List Value} : pC (.slice a n c :: vs) = pC vs := by simp [pC, Value.oneCell']
theorem plain_map {a : Option Nat} {vs : List Value} : pC (.map a :: vs) = pC vs := by simp [pC, Value.oneCell']
theorem plain_fn {f : Fn} {a b : Array Value} {vs : List Value} : pC (.func f a b :: vs) = pC vs := by simp [pC, Value.oneCell']
-- branches
theorem cD {p : Prop} {X Y : Prop} {s : Tag X} {t : Tag Y} (hx : p → X) (hy : ¬ p → Y) : condT (.bool (dcd p)) X Y s t := by
 by_cases h : p
 ·rw [dT h]; simp only [condT, condW, if_true]; exact hx h
 ·rw [dF h]; simp only [condT, condW, Bool.false_eq_true, if_false]; exact hy h
theorem gate_dec {p : Prop} {X Y : Prop} {s : Tag X} {t : Tag Y} (hx : p → X) (hy : ¬ p → Y) : gateT (dcd p) X Y s t := by
 by_cases h : p
 ·rw [dT h]; simp only [gateT, gateW, if_true]; exact hx h
 ·rw [dF h]; simp only [gateT, gateW, Bool.false_eq_true, if_false]; exact hy h
end
-- loops, cuts, regions
def iv : Value → Int
 | .int _ n => n
 | _ => 0
theorem iv_int {k : IntKind} {n : Int} : iv (.int k n) = n := (_root_.id rfl)
section
variable {P : Program} {Q : MExit → Env → Heap → Prop} {ρ : Env} {h : Heap}
theorem lI {c : MCode} {t1 : Tag c} {t2 : Tag Q} {t3 : Tag ρ} {t4 : Tag h} (I : Env → Heap → Prop) (μ : Env → Heap → Nat) (h0 : I ρ h)
  (hr : ∀ ρ h (J : Env → Heap → Prop), (∀ ρ' h', I ρ' h' → μ ρ' h' < μ ρ h → J ρ' h') → I ρ h → mwp P c (qseq J Q) ρ h) : loopT P c Q ρ h t1 t2 t3 t4 :=
 ⟨I, μ, h0, fun ρ h hi => hr ρ h _ (fun _ _ a b => ⟨a, b⟩) hi⟩
theorem eK {f : FuncId} {m : MFn} (hc : compF P f = some m) {args : List Value} (hl : args.length ≤ m.n) {h0 : Heap} {R : Value → Heap → Prop}
  (hk : ∀ K : Value → Heap → Prop, (∀ v h', R v h' → K v h') → mwp P m.code (retW m.res K) (argEnv args) h0) : CallsH P f args h0 R :=
 enter hc hl (hk R fun _ _ h => h)
end
section
variable {h h' : Heap}
theorem blk_push_new {c : List Value} {e : Nat} {f : Nat × Nat} {b : Nat} (hb : b = h.size) : blk (h.push (.cells c.toArray e f)) b = some (c, e, f) := by
 subst hb; simp [blk]
theorem blk_push_old {o : Obj} {b : Nat} (hb : b < h.size) : blk (h.push o) b = blk h b := by
 simp only [blk, Array.getElem?_push, if_neg (Nat.ne_of_lt hb)]
theorem blk_set_eq {c : List Value} {e : Nat} {f : Nat × Nat} {b : Nat} (hb : b < h.size) : blk (h.setIfInBounds b (.cells c.toArray e f)) b = some (c, e, f) := blk_set_same hb
theorem blk_set_ne {o : Obj} {b b' : Nat} (hb : b' ≠ b) : blk (h.setIfInBounds b o) b' = blk h b' := by
 simp only [blk, Array.getElem?_setIfInBounds_ne (Ne.symm hb)]
structure Fr (h h' : Heap) (M : List Nat) : Prop where
 size : h.size ≤ h'.size
 same : ∀ b, b < h.size → b ∉ M → h'[b]? = h[b]?
theorem Fr.refl (h : Heap) (M : List Nat) : Fr h h M := ⟨Nat.le_refl _, fun _ _ _ => rfl⟩
theorem Fr.trans {a b c : Heap} {M : List Nat} (x : Fr a b M) (y : Fr b c M) : Fr a c M :=
 ⟨Nat.le_trans x.size y.size, fun i hi hm => (y.same i (Nat.lt_of_lt_of_le hi x.size) hm).trans (x.same i hi hm)⟩
theorem Fr.mono {a b : Heap} {M M' : List Nat} (x : Fr a b M) (hm : ∀ i, i < a.size → i ∈ M → i ∈ M') : Fr a b M' :=
 ⟨x.size, fun i hi hn => x.same i hi (fun h => hn (hm i hi h))⟩
theorem Fr.via {a b c : Heap} {M M' : List Nat} (y : Fr b c M') (x : Fr a b M) (hm : ∀ i, i < a.size → i ∈ M' → i ∈ M) : Fr a c M :=
 ⟨Nat.le_trans x.size y.size, fun i hi hn => (y.same i (Nat.lt_of_lt_of_le hi x.size) (fun h => hn (hm i hi h))).trans (x.same i hi hn)⟩
theorem Fr.push {a b : Heap} {M : List Nat} (x : Fr a b M) (o : Obj) : Fr a (b.push o) M :=
 ⟨by have := x.size; simp; omega, fun i hi hm => by have := x.size; rw [Array.getElem?_push, if_neg (by omega)]; exact x.same i hi hm⟩
theorem Fr.set {a b : Heap} {M : List Nat} (x : Fr a b M) {k : Nat} (hk : k ∈ M ∨ a.size ≤ k) (o : Obj) : Fr a (b.setIfInBounds k o) M :=
 ⟨by have := x.size; simp; omega, fun i hi hm => by
  rw [Array.getElem?_setIfInBounds_ne (by rintro rfl; rcases hk with h | h; exact hm h; omega)]
  exact x.same i hi hm⟩
theorem Fr.setM {a b : Heap} {M : List Nat} {k : Nat} (hk : k ∈ M) (x : Fr a b M) (o : Obj) : Fr a (b.setIfInBounds k o) M := x.set (.inl hk) o
theorem Fr.setN {a b : Heap} {M : List Nat} {k : Nat} (hk : a.size ≤ k) (x : Fr a b M) (o : Obj) : Fr a (b.setIfInBounds k o) M := x.set (.inr hk) o
theorem Fr.blk {M : List Nat} (x : Fr h h' M) {b : Nat} (hb : b < h.size) (hm : b ∉ M) : blk h' b = blk h b := by
 simp only [MX.blk, x.same b hb hm]
theorem Fr.rdN {M : List Nat} (x : Fr h h' M) {b off n : Nat} (hb : b < h.size) (hm : b ∉ M) : rdN h' b off n = rdN h b off n := by
 simp only [MX.rdN, x.blk hb hm]
theorem rd1_push_old {o : Obj} {b off : Nat} (hb : b < h.size) : rd1 (h.push o) (.pointer (some ⟨b, off, none⟩)) = rd1 h (.pointer (some ⟨b, off, none⟩)) := by
 simp only [rd1, rdA, rdN, blk_push_old hb]
theorem rdN_push_old {o : Obj} {b off n : Nat} (hb : b < h.size) : rdN (h.push o) b off n = rdN h b off n := by simp only [rdN, blk_push_old hb]
theorem rd1_set_ne {o : Obj} {b b' off : Nat} (hb : b' ≠ b) : rd1 (h.setIfInBounds b o) (.pointer (some ⟨b', off, none⟩)) = rd1 h (.pointer (some ⟨b', off, none⟩)) := by
 simp only [rd1, rdA, rdN, blk_set_ne hb]
theorem rdN_set_ne {o : Obj} {b b' off n : Nat} (hb : b' ≠ b) : rdN (h.setIfInBounds b o) b' off n = rdN h b' off n := by simp only [rdN, blk_set_ne hb]
theorem Fr.rd1 {M : List Nat} (x : Fr h h' M) {b off : Nat} (hb : b < h.size) (hm : b ∉ M) : rd1 h' (.pointer (some ⟨b, off, none⟩)) = rd1 h (.pointer (some ⟨b, off, none⟩)) := by
 simp only [MX.rd1, MX.rdA, x.rdN hb hm]
theorem rdA_p {b off n : Nat} : rdA h (.pointer (some ⟨b, off, none⟩)) n = rdN h b off n := rfl
theorem rdN_blk {b off n : Nat} {c : List Value} {e : Nat} {f : Nat × Nat} (hb : blk h b = some (c, e, f)) (hl : off + n ≤ c.length) : rdN h b off n = some ((c.drop off).take n) := by
 simp only [rdN, hb, if_pos hl]
theorem rd1_blk {b off : Nat} {c : List Value} {e : Nat} {f : Nat × Nat} (hb : blk h b = some (c, e, f)) : rd1 h (.pointer (some ⟨b, off, none⟩)) = c[off]? := by
 unfold rd1
 rw [rdA_p]
 unfold rdN
 rw [hb]
 simp only
 by_cases hl : off + 1 ≤ c.length
 ·rw [if_pos hl]
  have h1 : c.drop off = c[off] :: c.drop (off + 1) := List.drop_eq_getElem_cons (by omega)
  rw [h1, l_r (show off < c.length by omega)]
  rfl
 ·rw [if_neg hl, List.getElem?_eq_none (by omega)]
theorem rdN_lt {b off n : Nat} {cs : List Value} (hr : rdN h b off n = some cs) : b < h.size := by
 unfold rdN at hr
 split at hr
 ·rename_i hb; exact blk_lt hb
 ·cases hr
theorem rdN_part {b off n k m : Nat} {cs : List Value} (hr : rdN h b off n = some cs) (hk : k + m ≤ n) : rdN h b (off + k) m = some ((cs.drop k).take m) := by
 unfold rdN at hr ⊢
 split at hr
 ·rename_i c e f hb
  split at hr
  ·rename_i hl
   cases hr
   rw [if_pos (by omega)]
   congr 1
   rw [List.drop_take, List.drop_drop, List.take_take]
   congr 1
   omega
  ·cases hr
 ·cases hr
theorem rP {b off n : Nat} {cs : List Value} (hr : rdN h b off n = some cs) (k : Nat) (hk : k < n) : rd1 h (.pointer (some ⟨b, off + k, none⟩)) = cs[k]? := by
 have h1 := rdN_part (k := k) (m := 1) hr hk
 have hl : cs.length = n := (rdN_spec (w := { (default : World) with heap := h }) hr).1
 unfold rd1
 rw [rdA_p, h1]
 have h2 : cs.drop k = cs[k]'(by omega) :: cs.drop (k + 1) := List.drop_eq_getElem_cons (by omega)
 rw [h2, l_r (show k < cs.length by omega)]
 rfl
theorem rP0 {b off n : Nat} {cs : List Value} (hr : rdN h b off n = some cs) (hk : 0 < n) : rd1 h (.pointer (some ⟨b, off, none⟩)) = cs[0]? := rP hr 0 hk
theorem rd1_push_new {c : List Value} {e : Nat} {f : Nat × Nat} {b off : Nat} (hb : b = h.size) : rd1 (h.push (.cells c.toArray e f)) (.pointer (some ⟨b, off, none⟩)) = c[off]? := rd1_blk (blk_push_new hb)
theorem rdN_push_new {c : List Value} {e : Nat} {f : Nat × Nat} {b off n : Nat} (hb : b = h.size) (hl : off + n ≤ c.length) : rdN (h.push (.cells c.toArray e f)) b off n = some ((c.drop off).take n) := rdN_blk (blk_push_new hb) hl
theorem rd1_set_eq {c : List Value} {e : Nat} {f : Nat × Nat} {b off : Nat} (hb : b < h.size) : rd1 (h.setIfInBounds b (.cells c.toArray e f)) (.pointer (some ⟨b, off, none⟩)) = c[off]? := rd1_blk (blk_set_eq hb)
theorem rdN_set_eq {c : List Value} {e : Nat} {f : Nat × Nat} {b off n : Nat} (hb : b < h.size) (hl : off + n ≤ c.length) : rdN (h.setIfInBounds b (.cells c.toArray e f)) b off n = some ((c.drop off).take n) := rdN_blk (blk_set_eq hb) hl
def Arr {α : Type} (enc : α → List Value) (sz : Nat) (h : Heap) (A : Option Addr) (xs : List α) : Prop :=
 ∀ i (hi : i < xs.length), ∃ b off, A = some ⟨b, off, none⟩ ∧ rdN h b (off + i * sz) sz = some (enc xs[i])
theorem Arr.nil {α : Type} (enc : α → List Value) (sz : Nat) (h : Heap) (A : Option Addr) : Arr enc sz h A [] := fun i hi => absurd hi (by simp)
theorem Arr.keep {α : Type} {enc : α → List Value} {sz : Nat} {A : Option Addr} {xs : List α} (ha : Arr enc sz h A xs) (hs : ∀ b off, A = some ⟨b, off, none⟩ → xs ≠ [] → blk h' b = blk h b) : Arr enc sz h' A xs := by
 intro i hi
 obtain ⟨b, off, hA, hr⟩ := ha i hi
 refine ⟨b, off, hA, ?_⟩
 rw [← hr]
 simp only [rdN, hs b off hA (by rintro rfl; simp at hi)]
end
theorem wrap_i64 {x : Int} (h0 : -9223372036854775808 ≤ x) (h1 : x < 9223372036854775808) : IntKind.i64.wrap x = x := IntWalk.i64_in _ (by omega)
theorem wrap_u8 {x : Int} (h0 : 0 ≤ x) (h1 : x < 256) : IntKind.u8.wrap x = x := by
 simp only [IntKind.wrap, IntKind.signed, IntKind.bits]
 simp
 omega
theorem wrap_u32 {x : Int} (h0 : 0 ≤ x) (h1 : x < 4294967296) : IntKind.u32.wrap x = x := by
 simp only [IntKind.wrap, IntKind.signed, IntKind.bits]
 simp
 omega
theorem wrap_u64 {x : Int} (h0 : 0 ≤ x) (h1 : x < 18446744073709551616) : IntKind.u64.wrap x = x := by
 simp only [IntKind.wrap, IntKind.signed, IntKind.bits]
 simp
 omega
attribute [go_sem ↓] updO_some updO_none upd_app mwp_skip mwp_ops mwp_seq mwp_cond mwp_loop mwp_draw mwp_exit mwp_ret qseq_normal qseq_ret qseq_exit qblk_normal qblk_ret qblk_exit opsWp_nil opsWp_p opsWp_r opsWp_e opsWp_g wp_p wp_r wp_e wantB_some ev_t ev_c argEnv_0 argEnv_1 argEnv_2 argEnv_3 argEnv_4 argEnv_5 val_mov val_pick val_build val_nilchk val_bin val_eq val_eqA val_un val_conv val_addOff val_idxS val_idxA val_cutS val_cutA val_cutT val_len val_lenA val_cap val_min val_max val_field val_idxG val_idxT val_extr val_func val_load1 val_loadN resVs_nil resVs_cons resV_tmp resV_one resV_agg retW_normal retW_ret e_store e_append e_copy e_clear e_s2b e_mk e_call e_callv e_any
attribute [go_sem] bind3_some room_00 plain_nil plain_int plain_bool plain_str plain_ptr plain_sl plain_map plain_fn blk_push_new blk_push_old blk_set_eq blk_set_ne rd1_push_new rd1_push_old rd1_set_eq rd1_set_ne rdN_push_new rdN_push_old rdN_set_eq rdN_set_ne List.drop_zero List.drop_succ_cons List.take_succ_cons List.take_zero List.take_nil List.drop_nil bindT_some bindV_some gateT_true gateT_false condT_true condT_false wantV_true wantV_false wantV_undef iv_int bin_add bin_sub bin_mul bin_quo bin_rem bin_and bin_or bin_xor bin_eql bin_neq bin_lss bin_leq bin_gtr bin_geq bin_shl bin_shr dcd_True dcd_False dT dF eqA_g eqK_nil eqK_i eqK_b eq_bool eq_pn eq_np eq_sn un_neg un_not conv_int addOff_p idxS_p idxA_p len_s len_l cap_l min_i max_i fold_nil fold_cons pick_b nil_p field_1 field_g idxG_1 idxG_g extr_t bnd_none0 bnd_none bnd_some sliceS_l sliceA_p cast0 cut_0 cut_lt cut_end cells_agg cells_int cells_bool cells_str cells_ptr cells_sl cells_fn cells_map fill_nil fill_cons sN sC zeros_0 zeros_1 oneOf_0 oneOf_1 oneOf_2 oneOf_3 oneOf_4 rdA_p wrap_i64 wrap_u8 wrap_u32 wrap_u64 List.map_cons List.map_nil List.set_cons_zero List.set_cons_succ List.length_cons List.length_nil List.getElem?_cons_zero List.getElem?_cons_succ List.nil_append List.cons_append List.append_nil Array.size_push Array.size_setIfInBounds Option.map_some Option.map_none Option.isNone_none Option.isNone_some Int.toNat_natCast Int.toNat_sub Int.sub_zero Nat.zero_add Nat.add_zero decide_true decide_false Bool.not_true Bool.not_false Bool.true_and Bool.false_and Bool.and_true Bool.and_false Bool.or_true Bool.or_false Bool.true_or Bool.false_or and_self true_and and_true Bool.false_eq_true if_true if_false not_true_eq_false not_false_eq_true ite_true ite_false ne_eq
universe v
theorem Pc {A B : Prop} (a : A) (b : B) : A ∧ B := ⟨a, b⟩
theorem Pd {A B C : Prop} (a : A) (b : B) (c : C) : A ∧ B ∧ C := ⟨a, b, c⟩
theorem Pe {A B C D : Prop} (a : A) (b : B) (c : C) (d : D) : A ∧ B ∧ C ∧ D := ⟨a, b, c, d⟩
theorem Pf {A B C D E : Prop} (a : A) (b : B) (c : C) (d : D) (e : E) : A ∧ B ∧ C ∧ D ∧ E := ⟨a, b, c, d, e⟩
theorem Wa {G H : Prop} (x : H) (z : G = H := by ((try simp (disch := first|omega|assumption|exact l_a rfl) only [go_sem, ↓wBk, simprocAttr]); exact rfl)) : G := (z).mpr x
theorem Wb {A G H : Prop} (a : A) (x : H) (z : A → G = H := by (intro a; (try simp (disch := first|omega|assumption|exact l_a rfl) only [go_sem, ↓wBk, simprocAttr, a]); exact rfl)) : G := (z a).mpr x
theorem Wc {A B G H : Prop} (a : A) (b : B) (x : H) (z : A → B → G = H := by (intro a b; (try simp (disch := first|omega|assumption|exact l_a rfl) only [go_sem, ↓wBk, simprocAttr, a, b]); exact rfl)) : G := (z a b).mpr x
theorem Wd {A B C G H : Prop} (a : A) (b : B) (c : C) (x : H) (z : A → B → C → G = H := by (intro a b c; (try simp (disch := first|omega|assumption|exact l_a rfl) only [go_sem, ↓wBk, simprocAttr, a, b, c]); exact rfl)) : G := (z a b c).mpr x
theorem We {A B C D G H : Prop} (a : A) (b : B) (c : C) (d : D) (x : H) (z : A → B → C → D → G = H := by (intro a b c d; (try simp (disch := first|omega|assumption|exact l_a rfl) only [go_sem, ↓wBk, simprocAttr, a, b, c, d]); exact rfl)) : G := (z a b c d).mpr x
theorem Wf {A B C D E G H : Prop} (a : A) (b : B) (c : C) (d : D) (e : E) (x : H) (z : A → B → C → D → E → G = H := by (intro a b c d e; (try simp (disch := first|omega|assumption|exact l_a rfl) only [go_sem, ↓wBk, simprocAttr, a, b, c, d, e]); exact rfl)) : G := (z a b c d e).mpr x
theorem Wg {A B C D E F G H : Prop} (a : A) (b : B) (c : C) (d : D) (e : E) (f : F) (x : H) (z : A → B → C → D → E → F → G = H := by (intro a b c d e f; (try simp (disch := first|omega|assumption|exact l_a rfl) only [go_sem, ↓wBk, simprocAttr, a, b, c, d, e, f]); exact rfl)) : G := (z a b c d e f).mpr x
theorem Wh {A B C D E F I G H : Prop} (a : A) (b : B) (c : C) (d : D) (e : E) (f : F) (i : I) (x : H) (z : A → B → C → D → E → F → I → G = H := by (intro a b c d e f i; (try simp (disch := first|omega|assumption|exact l_a rfl) only [go_sem, ↓wBk, simprocAttr, a, b, c, d, e, f, i]); exact rfl)) : G := (z a b c d e f i).mpr x
theorem Wi {A B C D E F I J G H : Prop} (a : A) (b : B) (c : C) (d : D) (e : E) (f : F) (i : I) (j : J) (x : H) (z : A → B → C → D → E → F → I → J → G = H := by (intro a b c d e f i j; (try simp (disch := first|omega|assumption|exact l_a rfl) only [go_sem, ↓wBk, simprocAttr, a, b, c, d, e, f, i, j]); exact rfl)) : G := (z a b c d e f i j).mpr x
theorem Xa {G H : Prop} (x : H) (z : G = H := by ((try simp (disch := first | omega | assumption | ((repeat' (first | exact Fr.refl _ _ | assumption | (refine Fr.via (by assumption) ?_ (by intro i hi hm; first | exact hm | exact l_l _ hm | exact absurd hm l_d | (simp only [l_e, l_y, l_d, or_false] at hm ⊢; omega))) | refine Fr.push ?_ _ | (refine Fr.setM ?_ ?_ _; · first | exact l_n | (simp only [l_e, true_or, or_true]; done)) | (refine Fr.setN ?_ ?_ _; · first | omega | (simp only [l_c, l_b]; omega)))); done) | (simp only [l_c, l_b, l_f, l_g, l_e, l_d, or_false, false_or, l_ab, not_or]; done) | (simp only [l_c, l_b, l_f, l_g, l_e, l_d, or_false, false_or, not_or]; omega)) only [go_sem, ↓wBk, ↓eA, ↓eB, ↓eS, sT, simprocAttr]); exact rfl)) : G := (z).mpr x
theorem Xb {A G H : Prop} (a : A) (x : H) (z : A → G = H := by (intro a; (try simp (disch := first | omega | assumption | ((repeat' (first | exact Fr.refl _ _ | assumption | (refine Fr.via (by assumption) ?_ (by intro i hi hm; first | exact hm | exact l_l _ hm | exact absurd hm l_d | (simp only [l_e, l_y, l_d, or_false] at hm ⊢; omega))) | refine Fr.push ?_ _ | (refine Fr.setM ?_ ?_ _; · first | exact l_n | (simp only [l_e, true_or, or_true]; done)) | (refine Fr.setN ?_ ?_ _; · first | omega | (simp only [l_c, l_b]; omega)))); done) | (simp only [l_c, l_b, l_f, l_g, l_e, l_d, or_false, false_or, l_ab, not_or]; done) | (simp only [l_c, l_b, l_f, l_g, l_e, l_d, or_false, false_or, not_or]; omega)) only [go_sem, ↓wBk, ↓eA, ↓eB, ↓eS, sT, simprocAttr, a]); exact rfl)) : G := (z a).mpr x
theorem Xc {A B G H : Prop} (a : A) (b : B) (x : H) (z : A → B → G = H := by (intro a b; (try simp (disch := first | omega | assumption | ((repeat' (first | exact Fr.refl _ _ | assumption | (refine Fr.via (by assumption) ?_ (by intro i hi hm; first | exact hm | exact l_l _ hm | exact absurd hm l_d | (simp only [l_e, l_y, l_d, or_false] at hm ⊢; omega))) | refine Fr.push ?_ _ | (refine Fr.setM ?_ ?_ _; · first | exact l_n | (simp only [l_e, true_or, or_true]; done)) | (refine Fr.setN ?_ ?_ _; · first | omega | (simp only [l_c, l_b]; omega)))); done) | (simp only [l_c, l_b, l_f, l_g, l_e, l_d, or_false, false_or, l_ab, not_or]; done) | (simp only [l_c, l_b, l_f, l_g, l_e, l_d, or_false, false_or, not_or]; omega)) only [go_sem, ↓wBk, ↓eA, ↓eB, ↓eS, sT, simprocAttr, a, b]); exact rfl)) : G := (z a b).mpr x
theorem Xd {A B C G H : Prop} (a : A) (b : B) (c : C) (x : H) (z : A → B → C → G = H := by (intro a b c; (try simp (disch := first | omega | assumption | ((repeat' (first | exact Fr.refl _ _ | assumption | (refine Fr.via (by assumption) ?_ (by intro i hi hm; first | exact hm | exact l_l _ hm | exact absurd hm l_d | (simp only [l_e, l_y, l_d, or_false] at hm ⊢; omega))) | refine Fr.push ?_ _ | (refine Fr.setM ?_ ?_ _; · first | exact l_n | (simp only [l_e, true_or, or_true]; done)) | (refine Fr.setN ?_ ?_ _; · first | omega | (simp only [l_c, l_b]; omega)))); done) | (simp only [l_c, l_b, l_f, l_g, l_e, l_d, or_false, false_or, l_ab, not_or]; done) | (simp only [l_c, l_b, l_f, l_g, l_e, l_d, or_false, false_or, not_or]; omega)) only [go_sem, ↓wBk, ↓eA, ↓eB, ↓eS, sT, simprocAttr, a, b, c]); exact rfl)) : G := (z a b c).mpr x
theorem Xe {A B C D G H : Prop} (a : A) (b : B) (c : C) (d : D) (x : H) (z : A → B → C → D → G = H := by (intro a b c d; (try simp (disch := first | omega | assumption | ((repeat' (first | exact Fr.refl _ _ | assumption | (refine Fr.via (by assumption) ?_ (by intro i hi hm; first | exact hm | exact l_l _ hm | exact absurd hm l_d | (simp only [l_e, l_y, l_d, or_false] at hm ⊢; omega))) | refine Fr.push ?_ _ | (refine Fr.setM ?_ ?_ _; · first | exact l_n | (simp only [l_e, true_or, or_true]; done)) | (refine Fr.setN ?_ ?_ _; · first | omega | (simp only [l_c, l_b]; omega)))); done) | (simp only [l_c, l_b, l_f, l_g, l_e, l_d, or_false, false_or, l_ab, not_or]; done) | (simp only [l_c, l_b, l_f, l_g, l_e, l_d, or_false, false_or, not_or]; omega)) only [go_sem, ↓wBk, ↓eA, ↓eB, ↓eS, sT, simprocAttr, a, b, c, d]); exact rfl)) : G := (z a b c d).mpr x
theorem Xf {A B C D E G H : Prop} (a : A) (b : B) (c : C) (d : D) (e : E) (x : H) (z : A → B → C → D → E → G = H := by (intro a b c d e; (try simp (disch := first | omega | assumption | ((repeat' (first | exact Fr.refl _ _ | assumption | (refine Fr.via (by assumption) ?_ (by intro i hi hm; first | exact hm | exact l_l _ hm | exact absurd hm l_d | (simp only [l_e, l_y, l_d, or_false] at hm ⊢; omega))) | refine Fr.push ?_ _ | (refine Fr.setM ?_ ?_ _; · first | exact l_n | (simp only [l_e, true_or, or_true]; done)) | (refine Fr.setN ?_ ?_ _; · first | omega | (simp only [l_c, l_b]; omega)))); done) | (simp only [l_c, l_b, l_f, l_g, l_e, l_d, or_false, false_or, l_ab, not_or]; done) | (simp only [l_c, l_b, l_f, l_g, l_e, l_d, or_false, false_or, not_or]; omega)) only [go_sem, ↓wBk, ↓eA, ↓eB, ↓eS, sT, simprocAttr, a, b, c, d, e]); exact rfl)) : G := (z a b c d e).mpr x
theorem Xi {A B C D E F I J G H : Prop} (a : A) (b : B) (c : C) (d : D) (e : E) (f : F) (i : I) (j : J) (x : H) (z : A → B → C → D → E → F → I → J → G = H := by (intro a b c d e f i j; (try simp (disch := first | omega | assumption | ((repeat' (first | exact Fr.refl _ _ | assumption | (refine Fr.via (by assumption) ?_ (by intro i hi hm; first | exact hm | exact l_l _ hm | exact absurd hm l_d | (simp only [l_e, l_y, l_d, or_false] at hm ⊢; omega))) | refine Fr.push ?_ _ | (refine Fr.setM ?_ ?_ _; · first | exact l_n | (simp only [l_e, true_or, or_true]; done)) | (refine Fr.setN ?_ ?_ _; · first | omega | (simp only [l_c, l_b]; omega)))); done) | (simp only [l_c, l_b, l_f, l_g, l_e, l_d, or_false, false_or, l_ab, not_or]; done) | (simp only [l_c, l_b, l_f, l_g, l_e, l_d, or_false, false_or, not_or]; omega)) only [go_sem, ↓wBk, ↓eA, ↓eB, ↓eS, sT, simprocAttr, a, b, c, d, e, f, i, j]); exact rfl)) : G := (z a b c d e f i j).mpr x
theorem iL {n : Nat} : Int.ofNat (no_index (OfNat.ofNat n)) = OfNat.ofNat n := rfl
theorem iN {n : Nat} : Int.negSucc (no_index (OfNat.ofNat n)) = -(OfNat.ofNat n + 1) := rfl
abbrev mkIR (P : Program) (f : FuncId) {m : MFn} (h : compF P f = some m := by (conv => lhs; reduce; (try dsimp only [iL, iN, Int.reduceAdd]))) : {m : MFn // compF P f = some m} := ⟨m, h⟩
theorem EN {P : Program} {f : FuncId} {m : MFn} {pf : compF P f = some m} {i : {m : MFn // compF P f = some m}} (_ : i = mkIR P f pf) {args : List Value} {h0 : Heap} {R : Value → Heap → Prop}
  (hk : ∀ K : Value → Heap → Prop, (∀ v h', R v h' → K v h') → mwp P m.code (retW m.res K) (argEnv args) h0) (hl : args.length ≤ m.n := by exact l_a rfl) : CallsH P f args h0 R := eK pf hl hk
attribute [go_sem] mkIR Option.isSome_none Option.isSome_some Bool.false_beq Bool.true_beq Option.getD_some Option.getD_none
end
end Go.Proofs.YtcgbhcgfdcfmaaaGreat.MX
