import Derived.OrdersHeld
import Derived.Below
import Derived.KernelRfl
import Derived.Tactics
import Derived.Tactics2
namespace Go.Proofs.YtcgbhcgfdcfmaaaGreat.MX
open Go Go.Proofs
set_option linter.unusedSimpArgs false
set_option linter.unusedVariables false
theorem l_a : type_of% @Nat.le_of_ble_eq_true := @Nat.le_of_ble_eq_true
theorem l_b : type_of% @Array.size_setIfInBounds := @Array.size_setIfInBounds
theorem l_c : type_of% @Array.size_push := @Array.size_push
theorem l_d : type_of% @List.not_mem_nil := @List.not_mem_nil
theorem l_e : type_of% @List.mem_cons := @List.mem_cons
theorem l_f : type_of% @List.length_cons := @List.length_cons
theorem l_g : type_of% @List.length_nil := @List.length_nil
theorem l_h : type_of% @List.set_cons_zero := @List.set_cons_zero
theorem l_i : type_of% @List.set_cons_succ := @List.set_cons_succ
theorem l_j : type_of% @List.cons_append := @List.cons_append
theorem l_k : type_of% @List.nil_append := @List.nil_append
theorem l_l : type_of% @List.mem_cons_of_mem := @List.mem_cons_of_mem
theorem l_m : type_of% @List.length_append := @List.length_append
theorem l_n : type_of% @List.mem_cons_self := @List.mem_cons_self
theorem l_o : type_of% @List.getElem?_cons_zero := @List.getElem?_cons_zero
theorem l_p : type_of% @List.getElem?_cons_succ := @List.getElem?_cons_succ
theorem l_q : type_of% @List.append_assoc := @List.append_assoc
theorem l_r : type_of% @List.getElem?_eq_getElem := @List.getElem?_eq_getElem
theorem l_s : type_of% @List.getD_eq_getElem?_getD := @List.getD_eq_getElem?_getD
theorem l_t : type_of% @List.take_succ_eq_append_getElem := @List.take_succ_eq_append_getElem
theorem l_u : type_of% @Int.eq_ofNat_of_zero_le := @Int.eq_ofNat_of_zero_le
theorem l_v : type_of% @List.getElem_mem := @List.getElem_mem
theorem l_w : type_of% @Option.isSome_none := @Option.isSome_none
theorem l_x : type_of% @Option.isSome_some := @Option.isSome_some
theorem l_y : type_of% @List.mem_append := @List.mem_append
theorem l_z : type_of% @List.length_map := @List.length_map
theorem l_aa : type_of% @List.mem_singleton := @List.mem_singleton
theorem l_ab : type_of% @not_false_eq_true := @not_false_eq_true
theorem l_ac : type_of% @not_true_eq_false := @not_true_eq_false
theorem l_ad : type_of% @List.length_take := @List.length_take
theorem l_ae : type_of% @List.getElem_map := @List.getElem_map
theorem l_af : type_of% @List.getElem_of_mem := @List.getElem_of_mem
theorem l_ag : type_of% @List.getElem?_map := @List.getElem?_map
theorem l_ah : type_of% @List.length_replicate := @List.length_replicate
theorem l_ai : type_of% @List.mem_map_of_mem := @List.mem_map_of_mem
theorem l_aj : type_of% @List.take_length := @List.take_length
theorem l_ak : type_of% @List.length_set := @List.length_set
theorem l_al : type_of% @List.map_append := @List.map_append
theorem l_am : type_of% @List.append_nil := @List.append_nil
theorem l_an : type_of% @List.take_zero := @List.take_zero
theorem l_ao : type_of% @List.drop_zero := @List.drop_zero
theorem l_ap : type_of% @Int.toNat_natCast := @Int.toNat_natCast
theorem l_aq : type_of% @List.take_succ_cons := @List.take_succ_cons
abbrev Heap := Array Obj
abbrev Env := Nat → Value
def upd (ρ : Env) (d : Nat) (v : Value) : Env := fun t => if t = d then v else ρ t
def updO (ρ : Env) (d : Option Nat) (v : Value) : Env := match d with | some d => upd ρ d v | none => ρ
theorem updO_some (ρ : Env) (d : Nat) (v : Value) : updO ρ (some d) v = upd ρ d v := rfl
theorem updO_none (ρ : Env) (v : Value) : updO ρ none v = ρ := rfl
inductive Opd where
 | t (n : Nat)
 | c (v : Value)
def ev (ρ : Env) : Opd → Value
 | .t n => ρ n
 | .c v => v
def blk (h : Heap) (b : Nat) : Option (List Value × Nat × (Nat × Nat)) :=
 match h[b]? with
 | some (.cells c e f) => some (c.toList, e, f)
 | _ => none
def rdN (h : Heap) (b off n : Nat) : Option (List Value) :=
 match blk h b with
 | some (c, _, _) => if off + n ≤ c.length then some ((c.drop off).take n) else none
 | none => none
def rdA (h : Heap) (v : Value) (n : Nat) : Option (List Value) :=
 match v with
 | .pointer (some ⟨b, off, none⟩) => rdN h b off n
 | _ => none
def rd1 (h : Heap) (v : Value) : Option Value :=
 match rdA h v 1 with
 | some [x] => some x
 | _ => none
def splice (c : List Value) (off : Nat) : List Value → List Value
 | [] => c
 | v :: vs => splice (c.set off v) (off + 1) vs
def cellsOf (v : Value) : List Value := v.cells.toList
def pC : List Value → Bool
 | [] => true
 | v :: vs => v.oneCell' && pC vs
def wrW (h : Heap) (v : Value) (cs : List Value) (K : Heap → Prop) : Prop :=
 match v with
 | .pointer (some ⟨b, off, none⟩) =>
  match blk h b with
  | some (c, e, f) => (off + cs.length ≤ c.length ∧ (f.2 ≤ f.1 ∨ off + cs.length ≤ f.1 ∨ f.2 ≤ off) ∧ pC cs = true) ∧ K (h.setIfInBounds b (.cells (splice c off cs).toArray e f))
  | none => False
 | _ => False
def bindO {α : Type} (x : Option α) (K : α → Prop) : Prop := match x with | some v => K v | none => False
def intBin (op : BinOp) (k : IntKind) (a b : Int) : Option Value :=
 match op with
 | .add => some (.int k (k.wrap (a + b)))
 | .sub => some (.int k (k.wrap (a - b)))
 | .mul => some (.int k (k.wrap (a * b)))
 | .quo => if b = 0 then none else some (.int k (k.wrap (a.tdiv b)))
 | .rem => if b = 0 then none else some (.int k (a.tmod b))
 | .and => some (.int k (k.wrap (BitVec.ofInt k.bits a &&& BitVec.ofInt k.bits b).toNat))
 | .or => some (.int k (k.wrap (BitVec.ofInt k.bits a ||| BitVec.ofInt k.bits b).toNat))
 | .xor => some (.int k (k.wrap (BitVec.ofInt k.bits a ^^^ BitVec.ofInt k.bits b).toNat))
 | .andNot => some (.int k (k.wrap (BitVec.ofInt k.bits a &&& ~~~ BitVec.ofInt k.bits b).toNat))
 | .eql => some (.bool (a == b))
 | .neq => some (.bool (a != b))
 | .lss => some (.bool (a < b))
 | .leq => some (.bool (a ≤ b))
 | .gtr => some (.bool (a > b))
 | .geq => some (.bool (a ≥ b))
 | _ => none
def binV (op : BinOp) (x y : Value) : Option Value :=
 match x, y with
 | .int k a, .int k' b =>
  match op with
  | .shl => if b < 0 then none else some (.int k (k.wrap (a * 2 ^ (min b.toNat k.bits))))
  | .shr => if b < 0 then none else some (.int k (a.fdiv (2 ^ (min b.toNat k.bits))))
  | _ => if k = k' then intBin op k a b else none
 | .string a, .string b =>
  match op with
  | .eql => some (.bool (a.toList == b.toList))
  | .neq => some (.bool (!(a.toList == b.toList)))
  | _ => none
 | _, _ => none
inductive EK where
 | b | p | s | m | f
def eqV (k : EK) (x y : Value) : Option Bool :=
 match k, x, y with
 | .b, .bool a, .bool b => some (a == b)
 | .p, .pointer none, .pointer b => some b.isNone
 | .p, .pointer (some _), .pointer none => some false
 | .s, .slice none _ _, .slice b _ _ => some b.isNone
 | .s, .slice (some _) _ _, .slice none _ _ => some false
 | .m, .map none, .map b => some b.isNone
 | .m, .map (some _), .map none => some false
 | .f, .nilFunc, .nilFunc => some true
 | .f, .nilFunc, .func _ _ _ => some false
 | .f, .func _ _ _, .nilFunc => some false
 | _, _, _ => none
def unV (op : UnOp) (x : Value) : Option Value :=
 match op, x with
 | .neg, .int k n => some (.int k (k.wrap (0 - n)))
 | .xor, .int k n => intBin .xor k (if k.signed then -1 else k.max) n
 | .not, .bool b => some (.bool !b)
 | _, _ => none
def addOffV (x : Value) (n : Nat) : Option Value :=
 match x with
 | .pointer (some a) => some (.pointer (some (a.add n)))
 | _ => none
def idxSV (sz : Nat) (x i : Value) : Option Value :=
 match x, i with
 | .slice (some a) len _, .int _ i => if 0 ≤ i ∧ i < len then some (.pointer (some (a.add (i.toNat * sz)))) else none
 | _, _ => none
def idxAV (len sz : Nat) (x i : Value) : Option Value :=
 match x, i with
 | .pointer (some a), .int _ i => if 0 ≤ i ∧ i < len then some (.pointer (some (a.add (i.toNat * sz)))) else none
 | _, _ => none
def bnd (x : Option Value) (d : Nat) : Option Int :=
 match x with
 | none => some d
 | some (.int _ i) => some i
 | _ => none
def bindV {α β : Type} (x : Option α) (K : α → Option β) : Option β := match x with | some v => K v | none => none
theorem bindV_some {α β : Type} (v : α) (K : α → Option β) : bindV (some v) K = K v := rfl
def cutV (a : Option Addr) (sz : Nat) (l h m cap : Int) : Option Value :=
 if 0 ≤ l ∧ l ≤ h ∧ h ≤ m ∧ m ≤ cap then
  some (.slice (if m = l then a else a.map (·.add (l.toNat * sz))) (h - l).toNat (m - l).toNat) else none
def sliceSV (sz : Nat) (x : Value) (lo hi mx : Option Value) : Option Value :=
 match x with
 | .slice a len cap => bindV (bnd lo 0) fun l => bindV (bnd hi len) fun h => bindV (bnd mx cap) fun m => cutV a sz l h m cap
 | _ => none
def sliceAV (n sz : Nat) (x : Value) (lo hi mx : Option Value) : Option Value :=
 match x with
 | .pointer (some a) => bindV (bnd lo 0) fun l => bindV (bnd hi n) fun h => bindV (bnd mx n) fun m => cutV (some a) sz l h m n
 | _ => none
def sliceTV (x : Value) (lo hi : Option Value) : Option Value :=
 match x with
 | .string s => bindV (bnd lo 0) fun l => bindV (bnd hi s.size) fun h =>
   if 0 ≤ l ∧ l ≤ h ∧ h ≤ s.size then some (.string (s.extract l.toNat h.toNat)) else none
 | _ => none
def lenV (str : Bool) (x : Value) : Option Value :=
 match str, x with
 | true, .string s => some (.int .i64 s.size)
 | false, .slice _ n _ => some (.int .i64 n)
 | _, _ => none
def capV (x : Value) : Option Value :=
 match x with
 | .slice _ _ c => some (.int .i64 c)
 | _ => none
def minV : Value → Value → Option Value
 | .int k x, .int _ y => some (.int k (if y < x then y else x))
 | _, _ => none
def maxV : Value → Value → Option Value
 | .int k x, .int _ y => some (.int k (if y > x then y else x))
 | _, _ => none
def foldV (f : Value → Value → Option Value) : Value → List Value → Option Value
 | x, [] => some x
 | x, y :: ys => bindV (f x y) fun z => foldV f z ys
def fieldV (off n : Nat) (agg : Bool) (x : Value) : Option Value :=
 match x with
 | .agg cs => if agg then some (.agg (cs.extract off (off + n))) else cs[off]?
 | _ => none
def idxGV (len sz : Nat) (agg : Bool) (x i : Value) : Option Value :=
 match x, i with
 | .agg cs, .int _ i => if 0 ≤ i ∧ i < len then (if agg then some (.agg (cs.extract (i.toNat * sz) (i.toNat * sz + sz))) else cs[i.toNat * sz]?) else none
 | _, _ => none
def idxTV (x i : Value) : Option Value :=
 match x, i with
 | .string s, .int _ i => if 0 ≤ i ∧ i < s.size then some (.int .u8 ((s[i.toNat]?.getD 0).toNat)) else none
 | _, _ => none
def extrV (x : Value) (i : Nat) : Option Value :=
 match x with
 | .tuple vs => vs[i]?
 | _ => none
def pickV (c a b : Value) : Option Value :=
 match c with
 | .bool c => some (if c then a else b)
 | _ => none
def nilV (x : Value) : Option Value :=
 match x with
 | .pointer (some a) => some (.pointer (some a))
 | .func (.func f) a b => some (.func (.func f) a b)
 | .slice a n c => some (.slice a n c)
 | _ => none
def convV (k : IntKind) (x : Value) : Option Value :=
 match x with
 | .int _ n => some (.int k (k.wrap n))
 | _ => none
def fillL (zero : List Value) : List (Nat × Nat × Value) → Option (List Value)
 | [] => some zero
 | (off, size, v) :: rest => if (cellsOf v).length = size ∧ off + size ≤ zero.length then fillL (splice zero off (cellsOf v)) rest else none
inductive CK where
 | i | b | s
def cellEq : CK → Value → Value → Option Bool
 | .i, .int k a, .int k' b => if k = k' then some (a == b) else none
 | .b, .bool a, .bool b => some (a == b)
 | .s, .string a, .string b => some (a.toList == b.toList)
 | _, _, _ => none
def eqK : List CK → List Value → List Value → Option Bool
 | [], [], [] => some true
 | k :: ks, x :: xs, y :: ys => bindV (cellEq k x y) fun b => bindV (eqK ks xs ys) fun c => some (b && c)
 | _, _, _ => none
def eqAV (ks : List CK) (x y : Value) : Option Bool :=
 match x, y with
 | .agg xs, .agg ys => eqK ks xs.toList ys.toList
 | _, _ => none
inductive Pure where
 | mov (x : Opd)
 | pick (c a b : Opd)
 | build (zero : List Value) (parts : List (Nat × Nat × Opd))
 | nilchk (x : Opd)
 | bin (op : BinOp) (x y : Opd)
 | eq (k : EK) (neg : Bool) (x y : Opd)
 | eqA (ks : List CK) (neg : Bool) (x y : Opd)
 | un (op : UnOp) (x : Opd)
 | conv (k : IntKind) (x : Opd)
 | addOff (x : Opd) (n : Nat)
 | idxS (sz : Nat) (x i : Opd)
 | idxA (len sz : Nat) (x i : Opd)
 | cutS (sz : Nat) (x : Opd) (lo hi mx : Option Opd)
 | cutA (n sz : Nat) (x : Opd) (lo hi mx : Option Opd)
 | cutT (x : Opd) (lo hi : Option Opd)
 | len (str : Bool) (x : Opd)
 | lenA (n : Nat)
 | cap (x : Opd)
 | min (x : Opd) (ys : List Opd)
 | max (x : Opd) (ys : List Opd)
 | field (off n : Nat) (agg : Bool) (x : Opd)
 | idxG (len sz : Nat) (agg : Bool) (x i : Opd)
 | idxT (x i : Opd)
 | extr (x : Opd) (i : Nat)
 | func (f : Fn) (first captured : List Opd)
def Pure.val (ρ : Env) : Pure → Option Value
 | .mov x => some (ev ρ x)
 | .pick c a b => pickV (ev ρ c) (ev ρ a) (ev ρ b)
 | .build zero parts => bindV (fillL zero (parts.map fun p => (p.1, p.2.1, ev ρ p.2.2))) fun cs => some (.agg cs.toArray)
 | .nilchk x => nilV (ev ρ x)
 | .bin op x y => binV op (ev ρ x) (ev ρ y)
 | .eq k neg x y => bindV (eqV k (ev ρ x) (ev ρ y)) fun b => some (.bool (if neg then !b else b))
 | .eqA ks neg x y => bindV (eqAV ks (ev ρ x) (ev ρ y)) fun b => some (.bool (if neg then !b else b))
 | .un op x => unV op (ev ρ x)
 | .conv k x => convV k (ev ρ x)
 | .addOff x n => addOffV (ev ρ x) n
 | .idxS sz x i => idxSV sz (ev ρ x) (ev ρ i)
 | .idxA ln sz x i => idxAV ln sz (ev ρ x) (ev ρ i)
 | .cutS sz x lo hi mx => sliceSV sz (ev ρ x) (lo.map (ev ρ)) (hi.map (ev ρ)) (mx.map (ev ρ))
 | .cutA n sz x lo hi mx => sliceAV n sz (ev ρ x) (lo.map (ev ρ)) (hi.map (ev ρ)) (mx.map (ev ρ))
 | .cutT x lo hi => sliceTV (ev ρ x) (lo.map (ev ρ)) (hi.map (ev ρ))
 | .len str x => lenV str (ev ρ x)
 | .lenA n => some (.int .i64 n)
 | .cap x => capV (ev ρ x)
 | .min x ys => foldV minV (ev ρ x) (ys.map (ev ρ))
 | .max x ys => foldV maxV (ev ρ x) (ys.map (ev ρ))
 | .field off n agg x => fieldV off n agg (ev ρ x)
 | .idxG ln sz agg x i => idxGV ln sz agg (ev ρ x) (ev ρ i)
 | .idxT x i => idxTV (ev ρ x) (ev ρ i)
 | .extr x i => extrV (ev ρ x) i
 | .func f first captured => some (.func f (first.map (ev ρ)).toArray (captured.map (ev ρ)).toArray)
inductive Read where
 | load1 (a : Opd)
 | loadN (n : Nat) (a : Opd)
def Read.val (ρ : Env) (h : Heap) : Read → Option Value
 | .load1 a => rd1 h (ev ρ a)
 | .loadN n a => bindV (rdA h (ev ρ a) n) fun cs => some (.agg cs.toArray)
def srcCells (h : Heap) (sz n : Nat) (x : Value) : Option (List Value) :=
 match x with
 | .slice none _ _ => some []
 | .slice (some a) _ _ => if n * sz = 0 then some [] else rdA h (.pointer (some a)) (n * sz)
 | .string s => some ((s.data.toList.take n).map fun b => .int .u8 b.toNat)
 | _ => none
def srcLen (x : Value) : Option Nat :=
 match x with
 | .slice _ n _ => some n
 | .string s => some s.size
 | _ => none
def zerosL (zero : List Value) : Nat → List Value
 | 0 => []
 | n + 1 => zero ++ zerosL zero n
def Alike (w w' : World) : Prop := w'.os = w.os ∧ w'.tape = w.tape ∧ w'.output = w.output
def CallsH (P : Program) (f : FuncId) (args : List Value) (h : Heap) (R : Value → Heap → Prop) : Prop :=
 ∀ w : World, w.heap = h → Calls P f args.toArray w fun e w' => ∃ v, e = .returned v ∧ Alike w w' ∧ R v w'.heap
def okFn (P : Program) (f : FuncId) : Bool :=
 match P.funcs[f]? with
 | some fn => fn.body.isSome && !(fn.name == "runtime.NumGoroutine")
 | none => false
inductive Eff where
 | alloc (T : Nat) (zero : List Value)
 | box (T : Nat) (x : Opd)
 | bslice (T len : Nat) (zero : List Value) (parts : List (Nat × Nat × Opd))
 | store (n : Nat) (a x : Opd)
 | append (T sz bytes : Nat) (zero : List Value) (x y : Opd)
 | copy (sz : Nat) (x y : Opd)
 | clear (sz : Nat) (zero : List Value) (x : Opd)
 | s2b (T : Nat) (x : Opd)
 | mkslice (T sz bytes : Nat) (zero : List Value) (len cap : Opd)
 | call (f : FuncId) (args : List Opd)
 | callv (x : Opd) (args : List Opd)
 | any (o : Oper)
def appW (T sz bytes : Nat) (zero : List Value) (x y : Value) (h : Heap) (K : Value → Heap → Prop) : Prop :=
 match x with
 | .slice base n c =>
  bindO (srcLen y) fun m => bindO (srcCells h sz m y) fun new =>
   if n + m ≤ c then
    (match base with
     | some a => if new = [] then K (.slice base (n + m) c) h else wrW h (.pointer (some (a.add (n * sz)))) new fun h' => K (.slice base (n + m) c) h'
     | none => K (.slice base (n + m) c) h)
   else bindO (srcCells h sz n x) fun old =>
    (n + m) * bytes ≤ 140737488355328 ∧ n + m ≤ 9223372036854775807 ∧
    ∀ cap, n + m ≤ cap → cap < 9223372036854775808 → K (.slice (some ⟨h.size, 0, none⟩) (n + m) cap) (h.push (.cells (old ++ new ++ zerosL zero (cap - (n + m))).toArray T (0, 0)))
 | _ => False
def copyW (sz : Nat) (x y : Value) (h : Heap) (K : Value → Heap → Prop) : Prop :=
 match x with
 | .slice base n _ =>
  bindO (srcLen y) fun m => bindO (srcCells h sz (min m n) y) fun new =>
   match base with
   | some a => if new = [] then K (.int .i64 (min m n : Nat)) h else wrW h (.pointer (some a)) new fun h' => K (.int .i64 (min m n : Nat)) h'
   | none => K (.int .i64 (min m n : Nat)) h
 | _ => False
def clearW (zero : List Value) (x : Value) (h : Heap) (K : Value → Heap → Prop) : Prop :=
 match x with
 | .slice base n _ =>
  match base with
  | some a => if n = 0 then K (.tuple #[]) h else wrW h (.pointer (some a)) (zerosL zero n) fun h' => K (.tuple #[]) h'
  | none => K (.tuple #[]) h
 | _ => False
def s2bW (T : Nat) (x : Value) (h : Heap) (K : Value → Heap → Prop) : Prop :=
 match x with
 | .string s => s.size ≤ 9223372036854775807 ∧ ∀ cap, s.size ≤ cap → cap < 9223372036854775808 → K (.slice (some ⟨h.size, 0, none⟩) s.size cap) (h.push (.cells ((s.data.toList.map fun b : UInt8 => Value.int .u8 b.toNat) ++ List.replicate (cap - s.size) (Value.int .u8 0)).toArray T (cap, cap + 1)))
 | _ => False
def mkW (T bytes : Nat) (zero : List Value) (l c : Value) (h : Heap) (K : Value → Heap → Prop) : Prop :=
 match l, c with
 | .int .i64 l, .int .i64 c => (0 ≤ l ∧ l ≤ c ∧ c < 9223372036854775808 ∧ c * bytes ≤ 281474976710656) ∧
   K (.slice (some ⟨h.size, 0, none⟩) l.toNat c.toNat) (h.push (.cells (zerosL zero c.toNat).toArray T (0, 0)))
 | _, _ => False
def callvW (P : Program) (x : Value) (args : List Value) (h : Heap) (K : Value → Heap → Prop) : Prop :=
 match x with
 | .func (.func f) first captured => okFn P f = true ∧ CallsH P f (first.toList ++ args ++ captured.toList) h K
 | _ => False
def Eff.wp (P : Program) (ρ : Env) (h : Heap) (K : Value → Heap → Prop) : Eff → Prop
 | .alloc T zero => K (.pointer (some ⟨h.size, 0, none⟩)) (h.push (.cells zero.toArray T (0, 0)))
 | .box T x => K (.pointer (some ⟨h.size, 0, none⟩)) (h.push (.cells (cellsOf (ev ρ x)).toArray T (0, 0)))
 | .bslice T len zero parts => bindO (fillL (zerosL zero len) (parts.map fun p => (p.1, p.2.1, ev ρ p.2.2))) fun cs =>
   K (.slice (some ⟨h.size, 0, none⟩) len len) (h.push (.cells cs.toArray T (0, 0)))
 | .store n a x => (cellsOf (ev ρ x)).length = n ∧ wrW h (ev ρ a) (cellsOf (ev ρ x)) fun h' => K undef h'
 | .append T sz bytes zero x y => appW T sz bytes zero (ev ρ x) (ev ρ y) h K
 | .copy sz x y => copyW sz (ev ρ x) (ev ρ y) h K
 | .clear _ zero x => clearW zero (ev ρ x) h K
 | .s2b T x => s2bW T (ev ρ x) h K
 | .mkslice T _ bytes zero l c => mkW T bytes zero (ev ρ l) (ev ρ c) h K
 | .call f args => CallsH P f (args.map (ev ρ)) h K
 | .callv x args => callvW P (ev ρ x) (args.map (ev ρ)) h K
 | .any o => ∀ (w : World) (a : Act), w.heap = h → (∀ x ∈ o.op.operands, a.eval x = (match x with | .tmp t => ρ t | .const v => v | .global g => .pointer (some ⟨g, 0, none⟩) | .func f => .func (.func f) #[] #[])) →
   ∃ v w', ((execOp a.eval o).run P w = .ok (.value v) w' ∨ ((execOp a.eval o).run P w = .ok .skip w' ∧ v = undef)) ∧ Alike w w' ∧ K v w'.heap
inductive MOp where
 | p (x : Pure)
 | r (x : Read)
 | e (x : Eff)
def MOp.wp (P : Program) (ρ : Env) (h : Heap) (K : Value → Heap → Prop) : MOp → Prop
 | .p x => bindO (x.val ρ) fun v => K v h
 | .r x => bindO (x.val ρ h) fun v => K v h
 | .e x => x.wp P ρ h K
structure MOper where
 dst : Option Nat
 op : MOp
 guard : Option (Nat × Bool)
def wantB (ρ : Env) : Option (Nat × Bool) → Bool
 | none => true
 | some (s, want) => match ρ s with | .bool b => b == want | _ => false
def gateW (b : Bool) (X Y : Prop) : Prop := if b = true then X else Y
def opsWp (P : Program) : List MOper → (Env → Heap → Prop) → Env → Heap → Prop
 | [], K, ρ, h => K ρ h
 | o :: os, K, ρ, h => gateW (wantB ρ o.guard) (o.op.wp P ρ h fun v h' => opsWp P os K (updO ρ o.dst v) h') (opsWp P os K (updO ρ o.dst undef) h)
inductive Sch where
 | done
 | take (i : Nat) (k : Sch)
 | alt (i : Nat) (ns : Bool) (k : Sch) (more : Sch)
 | no
 | bad
def schWp (P : Program) (S : Heap → Prop) (ops : List MOper) (K : Env → Heap → Prop) : Sch → Env → Heap → Prop
 | .done, ρ, h => K ρ h
 | .take i k, ρ, h => match ops[i]? with
  | some o => gateW (wantB ρ o.guard)
    (match o.op with
     | .p x => bindO (x.val ρ) fun v => schWp P S ops K k (updO ρ o.dst v) h
     | .r x => ∃ v, (∀ h', S h' → x.val ρ h' = some v) ∧ schWp P S ops K k (updO ρ o.dst v) h
     | .e _ => False)
    (schWp P S ops K k (updO ρ o.dst undef) h)
  | none => False
 | .alt i ns k more, ρ, h => (match ops[i]? with
  | some o => gateW (wantB ρ o.guard) (o.op.wp P ρ h fun v h' => (ns = true → S h') ∧ schWp P S ops K k (updO ρ o.dst v) h') (schWp P S ops K k (updO ρ o.dst undef) h)
  | none => False) ∧ schWp P S ops K more ρ h
 | .no, _, _ => True
 | .bad, _, _ => False
inductive MCode where
 | skip
 | fail
 | ops (l : List MOper)
 | draw (l : List MOper) (s : Sch)
 | seq (a b : MCode)
 | cond (c : Opd) (x y : MCode)
 | block (id : Nat) (c : MCode)
 | loop (c : MCode)
 | exit (id : Nat)
 | ret
 | raw (c : Code)
inductive MExit where
 | normal
 | exit (id : Nat)
 | ret
def qseq (k : Env → Heap → Prop) (Q : MExit → Env → Heap → Prop) : MExit → Env → Heap → Prop
 | .normal, ρ, h => k ρ h
 | e, ρ, h => Q e ρ h
def qblk (id : Nat) (Q : MExit → Env → Heap → Prop) : MExit → Env → Heap → Prop
 | .exit id', ρ, h => if id' = id then Q .normal ρ h else Q (.exit id') ρ h
 | e, ρ, h => Q e ρ h
def condW (v : Value) (X Y : Prop) : Prop := match v with | .bool b => if b = true then X else Y | _ => False
def mwp (P : Program) : MCode → (MExit → Env → Heap → Prop) → Env → Heap → Prop
 | .skip, Q, ρ, h => Q .normal ρ h
 | .fail, _, _, _ => False
 | .raw _, _, _, _ => False
 | .ops l, Q, ρ, h => opsWp P l (fun ρ h => Q .normal ρ h) ρ h
 | .draw l s, Q, ρ, h => ∃ S : Heap → Prop, S h ∧ schWp P S l (fun ρ h => Q .normal ρ h) s ρ h
 | .seq a b, Q, ρ, h => mwp P a (qseq (mwp P b Q) Q) ρ h
 | .cond c x y, Q, ρ, h => condW (ev ρ c) (mwp P x Q ρ h) (mwp P y Q ρ h)
 | .block id c, Q, ρ, h => mwp P c (qblk id Q) ρ h
 | .loop c, Q, ρ, h => ∃ (I : Env → Heap → Prop) (μ : Env → Heap → Nat), I ρ h ∧ ∀ ρ h, I ρ h → mwp P c (qseq (fun ρ' h' => I ρ' h' ∧ μ ρ' h' < μ ρ h) Q) ρ h
 | .exit id, Q, ρ, h => Q (.exit id) ρ h
 | .ret, Q, ρ, h => Q .ret ρ h
inductive MRes where
 | tmp (t : Nat)
 | cell (t n : Nat) (agg : Bool)
def resV (ρ : Env) (h : Heap) : MRes → Option Value
 | .tmp t => some (ρ t)
 | .cell t n agg => if agg then bindV (rdA h (ρ t) n) fun cs => some (.agg cs.toArray) else rd1 h (ρ t)
def resVs (ρ : Env) (h : Heap) : List MRes → Option (List Value)
 | [] => some []
 | r :: rs => bindV (resV ρ h r) fun v => bindV (resVs ρ h rs) fun vs => some (v :: vs)
def oneOf : List Value → Value
 | [v] => v
 | vs => .tuple vs.toArray
def retW (rs : List MRes) (R : Value → Heap → Prop) : MExit → Env → Heap → Prop
 | .normal, ρ, h => bindO (resVs ρ h rs) fun vs => R (oneOf vs) h
 | .ret, ρ, h => bindO (resVs ρ h rs) fun vs => R (oneOf vs) h
 | .exit _, _, _ => False
def argEnv (args : List Value) : Env := fun t => args.getD t undef
def opd (N : Nat) : Operand → Option Opd
 | .tmp t => if t < N then some (.t t) else none
 | .const v => some (.c v)
 | .global g => some (.c (.pointer (some ⟨g, 0, none⟩)))
 | .func f => some (.c (.func (.func f) #[] #[]))
def opds (N : Nat) : List Operand → Option (List Opd)
 | [] => some []
 | x :: xs => bindV (opd N x) fun y => bindV (opds N xs) fun ys => some (y :: ys)
def opdO (N : Nat) : Option Operand → Option (Option Opd)
 | none => some none
 | some x => bindV (opd N x) fun y => some (some y)
def szOf (P : Program) (t : TypeId) : Option Nat := match P.info? t with | some i => some i.size | none => none
def bytesOfT (P : Program) (t : TypeId) : Option Nat := match P.info? t with | some i => some i.bytes | none => none
def zeroL (P : Program) (t : TypeId) : Option (List Value) :=
 match P.info? t with
 | some i => match i.zero with | some v => some (cellsOf v) | none => none
 | none => none
def isAggB (P : Program) (t : TypeId) : Option Bool :=
 match P.underlying t with
 | some (.struct _) => some true
 | some (.array _ _) => some true
 | some _ => some false
 | none => none
def placeS (P : Program) (fs : List Field) (i : Nat) : Option (Nat × Nat) :=
 match fs[i]? with
 | some f => bindV (szOf P f.type) fun s => some (f.offset, s)
 | none => none
def kindsFs (P : Program) (rec : TypeId → Option (List CK)) : List Field → Nat → Option (List CK)
 | [], _ => some []
 | f :: fs, off => if f.offset = off ∧ (f.name == "_") = false then bindV (rec f.type) fun k => bindV (szOf P f.type) fun n => if k.length = n ∧ 0 < n then bindV (kindsFs P rec fs (off + n)) fun ks => some (k ++ ks) else none else none
def copiesK (k : List CK) : Nat → List CK
 | 0 => []
 | n + 1 => k ++ copiesK k n
def kindsT (P : Program) : Nat → TypeId → Option (List CK)
 | 0, _ => none
 | d + 1, t => match P.underlying t with
  | some (.int _) => some [.i]
  | some .bool => some [.b]
  | some .string => some [.s]
  | some (.struct fs) => if P.stoodInHeld t then none else kindsFs P (kindsT P d) fs.toList 0
  | some (.array n e) => bindV (kindsT P d e) fun k => bindV (szOf P e) fun m => if k.length = m ∧ 0 < m then some (copiesK k n) else none
  | _ => none
def partsC (N : Nat) (place : Nat → Option (Nat × Nat)) : List (Nat × Operand) → Option (List (Nat × Nat × Opd))
 | [] => some []
 | (i, x) :: rest => bindV (place i) fun p => bindV (opd N x) fun y => bindV (partsC N place rest) fun r => some ((p.1, p.2, y) :: r)
def allSz (P : Program) : List Field → Bool
 | [] => true
 | f :: fs => (szOf P f.type).isSome && allSz P fs
def compCall (P : Program) (N : Nat) (c : Call) : Option MOp :=
 match c.callee with
 | .builtin b =>
  bindV (opds N c.args.toList) fun xs =>
  match b, xs with
  | .len, [x] => bindV c.argTypes[0]? fun t => match P.underlying t with
   | some .string => some (.p (.len true x))
   | some (.slice _) => some (.p (.len false x))
   | some (.array n _) => some (.p (.lenA n))
   | some (.pointer a) => match P.underlying a with | some (.array n _) => some (.p (.lenA n)) | _ => none
   | _ => none
  | .cap, [x] => bindV c.argTypes[0]? fun t => match P.underlying t with
   | some (.slice _) => some (.p (.cap x))
   | _ => none
  | .min, x :: ys => some (.p (.min x ys))
  | .max, x :: ys => some (.p (.max x ys))
  | .append, [x, y] => bindV c.argTypes[0]? fun t => bindV c.argTypes[1]? fun u => match P.underlying t, P.underlying u with
   | some (.slice e), some (.slice _) => bindV (szOf P e) fun sz => bindV (bytesOfT P e) fun by_ => bindV (zeroL P e) fun z => if z.length = sz ∧ 0 < sz ∧ 0 < by_ then some (.e (.append e sz by_ z x y)) else none
   | some (.slice e), some .string => bindV (szOf P e) fun sz => bindV (bytesOfT P e) fun by_ => bindV (zeroL P e) fun z => if z.length = sz ∧ 0 < sz ∧ 0 < by_ then some (.e (.append e sz by_ z x y)) else none
   | _, _ => none
  | .copy, [x, y] => bindV c.argTypes[0]? fun t => match P.underlying t with
   | some (.slice e) => bindV (szOf P e) fun sz => if 0 < sz then some (.e (.copy sz x y)) else none
   | _ => none
  | .clear, [x] => bindV c.argTypes[0]? fun t => match P.underlying t with
   | some (.slice e) => bindV (szOf P e) fun sz => bindV (zeroL P e) fun z => if z.length = sz ∧ 0 < sz then some (.e (.clear sz z x)) else none
   | _ => none
  | _, _ => none
 | .value f => bindV (opd N f) fun y => bindV (opds N c.args.toList) fun xs =>
  match y with
  | .c (.func (.func f) a b) => if a.isEmpty && b.isEmpty && okFn P f then some (.e (.call f xs)) else none
  | .t n => some (.e (.callv (.t n) xs))
  | _ => none
 | _ => none
def okOpd (N : Nat) : Operand → Bool
 | .tmp t => t < N
 | _ => true
def anyOp (N : Nat) (o : Oper) : Option MOp :=
 match o.op with
 | .select _ _ => none
 | .call _ => none
 | op => if op.operands.toList.all (okOpd N) then some (.e (.any o)) else none
def compOp (P : Program) (N : Nat) (o : Oper) : Option MOp :=
 match o.op with
 | .move x => bindV (opd N x) fun x => some (.p (.mov x))
 | .assign x => bindV (opd N x) fun x => some (.p (.mov x))
 | .pick c a b => bindV (opd N c) fun c => bindV (opd N a) fun a => bindV (opd N b) fun b => some (.p (.pick c a b))
 | .alloc e => bindV (zeroL P e) fun z => some (.e (.alloc e z))
 | .box e x => bindV (opd N x) fun x => some (.e (.box e x))
 | .build t parts => bindV (zeroL P t) fun z => match P.underlying t with
  | some (.struct fs) => if allSz P fs.toList then bindV (partsC N (placeS P fs.toList) parts.toList) fun ps => some (.p (.build z ps)) else none
  | some (.array _ e) => bindV (szOf P e) fun sz => bindV (partsC N (fun i => some (i * sz, sz)) parts.toList) fun ps => some (.p (.build z ps))
  | _ => none
 | .buildSlice t len parts => match P.underlying t with
  | some (.slice e) => bindV (szOf P e) fun sz => bindV (zeroL P e) fun z => if z.length = sz ∧ 0 < sz ∧ len * sz ≤ 16777216 then
    bindV (partsC N (fun i => some (i * sz, sz)) parts.toList) fun ps => some (.e (.bslice e len z ps)) else none
  | _ => none
 | .load t a => bindV (opd N a) fun a => bindV (isAggB P t) fun g => if g then bindV (szOf P t) fun n => some (.r (.loadN n a)) else some (.r (.load1 a))
 | .store t a x => bindV (opd N a) fun a => bindV (opd N x) fun x => bindV (szOf P t) fun n => some (.e (.store n a x))
 | .nilCheck x => bindV (opd N x) fun x => some (.p (.nilchk x))
 | .binOp op t x y _ => bindV (opd N x) fun x' => bindV (opd N y) fun y' => match P.underlying t with
  | some (.int _) => some (.p (.bin op x' y'))
  | some .string => some (.p (.bin op x' y'))
  | some .bool => (match op with | .eql => some (.p (.eq .b false x' y')) | .neq => some (.p (.eq .b true x' y')) | _ => none)
  | some (.pointer _) => (match op with | .eql => some (.p (.eq .p false x' y')) | .neq => some (.p (.eq .p true x' y')) | _ => none)
  | some (.slice _) => (match op with | .eql => some (.p (.eq .s false x' y')) | .neq => some (.p (.eq .s true x' y')) | _ => none)
  | some (.map _ _) => (match op with | .eql => some (.p (.eq .m false x' y')) | .neq => some (.p (.eq .m true x' y')) | _ => none)
  | some (.func _ _ _) => (match op with | .eql => some (.p (.eq .f false x' y')) | .neq => some (.p (.eq .f true x' y')) | _ => none)
  | some (.struct _) => if P.eqGuardType P.depth t then none else bindV (kindsT P 9 t) fun ks => (match op with | .eql => some (.p (.eqA ks false x' y')) | .neq => some (.p (.eqA ks true x' y')) | _ => none)
  | some (.array _ _) => if P.eqGuardType P.depth t then none else bindV (kindsT P 9 t) fun ks => (match op with | .eql => some (.p (.eqA ks false x' y')) | .neq => some (.p (.eqA ks true x' y')) | _ => none)
  | _ => anyOp N o
 | .unOp op _ x => bindV (opd N x) fun x => some (.p (.un op x))
 | .convert s d x => bindV (opd N x) fun x' => match P.underlying s, P.underlying d with
  | some (.int _), some (.int k) => some (.p (.conv k x'))
  | some .string, some (.slice e) => match P.underlying e with | some (.int .u8) => some (.e (.s2b e x')) | _ => none
  | _, _ => anyOp N o
 | .makeFunc f first captured => bindV (opds N first.toList) fun a => bindV (opds N captured.toList) fun b => some (.p (.func f a b))
 | .makeSlice t l c => bindV (opd N l) fun l => bindV (opd N c) fun c => match P.underlying t with
  | some (.slice e) => bindV (szOf P e) fun sz => bindV (bytesOfT P e) fun by_ => bindV (zeroL P e) fun z => if z.length = sz ∧ 0 < sz then some (.e (.mkslice e sz by_ z l c)) else none
  | _ => none
 | .slice t x lo hi mx => bindV (opd N x) fun x => bindV (opdO N lo) fun lo' => bindV (opdO N hi) fun hi' => bindV (opdO N mx) fun mx' =>
  if mx.isSome && hi.isNone then none else
  match P.underlying t with
  | some (.array n e) => bindV (szOf P e) fun sz => some (.p (.cutA n sz x lo' hi' mx'))
  | some .string => if mx.isSome then none else some (.p (.cutT x lo' hi'))
  | some (.slice e) => bindV (szOf P e) fun sz => some (.p (.cutS sz x lo' hi' mx'))
  | some (.pointer a) => match P.underlying a with | some (.array n e) => bindV (szOf P e) fun sz => some (.p (.cutA n sz x lo' hi' mx')) | _ => none
  | _ => none
 | .fieldAddr t x f => bindV (opd N x) fun x => match P.underlying t with
  | some (.struct fs) => match fs.toList[f]? with
   | some fd => bindV (szOf P fd.type) fun sz => if sz = 0 then none else some (.p (.addOff x fd.offset))
   | none => none
  | _ => none
 | .field t x f => bindV (opd N x) fun x => match P.underlying t with
  | some (.struct fs) => match fs.toList[f]? with
   | some fd => bindV (szOf P fd.type) fun sz => bindV (isAggB P fd.type) fun g => some (.p (.field fd.offset sz g x))
   | none => none
  | _ => none
 | .indexAddr t x i => bindV (opd N x) fun x => bindV (opd N i) fun i => match P.underlying t with
  | some (.slice e) => bindV (szOf P e) fun sz => some (.p (.idxS sz x i))
  | some (.array n e) => bindV (szOf P e) fun sz => some (.p (.idxA n sz x i))
  | _ => none
 | .index t x i => bindV (opd N x) fun x => bindV (opd N i) fun i => match P.underlying t with
  | some .string => some (.p (.idxT x i))
  | some (.array n e) => bindV (szOf P e) fun sz => bindV (isAggB P e) fun g => some (.p (.idxG n sz g x i))
  | _ => none
 | .extract t i => bindV (opd N t) fun x => some (.p (.extr x i))
 | .call c => match compCall P N c with
  | some m => some m
  | none => if o.op.operands.toList.all (okOpd N) then some (.e (.any o)) else none
 | _ => anyOp N o
def guardC (N : Nat) (ops : List Oper) : Option (Nat × Bool) → Option (Option (Nat × Bool))
 | none => some none
 | some (j, want) => match ops[j]? with
  | some o => match o.dst with
   | some d => if d < N then some (some (d, want)) else none
   | none => none
  | none => none
def dstOk (N : Nat) : Option Nat → Bool
 | none => true
 | some d => d < N
def compOps (P : Program) (N : Nat) (all : List Oper) : List Oper → Option (List MOper)
 | [] => some []
 | o :: os => if dstOk N o.dst then bindV (compOp P N o) fun m => bindV (guardC N all o.guard) fun g => bindV (compOps P N all os) fun ms => some (⟨o.dst, m, g⟩ :: ms) else none
def rdyB (ops : List Oper) (listed : List Bool) (i : Nat) : Bool :=
 !(listed.getD i true) && (match ops[i]? with | some o => o.after.toList.all (fun e => !Region.binds .any e || listed.getD e.on false) | none => false)
def isEff : MOp → Bool
 | .e _ => true
 | _ => false
def isRd : MOp → Bool
 | .r _ => true
 | _ => false
def noSelect : Oper → Bool
 | { op := .select _ _, .. } => false
 | _ => true
def apartB (ops : List Oper) (listed : List Bool) (i : Nat) (o : Oper) : Nat → List Oper → Bool
 | _, [] => true
 | j, p :: ps => (j == i || listed.getD j true || p.after.toList.any (fun e => Region.binds .any e && e.on == i) || o.apart ops.toArray p) && apartB ops listed i o (j + 1) ps
def reachB (ops : List Oper) (i : Nat) : Nat → Nat → Bool
 | 0, _ => false
 | n + 1, j => match ops[j]? with
  | some o => o.after.toList.any fun e => Region.binds .any e && (e.on == i || reachB ops i n e.on)
  | none => false
def needB (ops : List Oper) (ms : List MOper) (j : Nat) : Bool :=
 (List.range ms.length).any fun i => (match ms[i]? with | some m => isRd m.op && i != j && !reachB ops i ops.length j | none => false)
def pickB (ops : List Oper) (ms : List MOper) (listed : List Bool) : List Nat → Option Nat
 | [] => none
 | i :: is => match ops[i]?, ms[i]? with
  | some o, some m => if rdyB ops listed i && !isEff m.op && apartB ops listed i o 0 ops then some i else pickB ops ms listed is
  | _, _ => pickB ops ms listed is
def altS (ops : List Oper) (ms : List MOper) (listed : List Bool) (k : List Bool → Sch) : List Nat → Sch
 | [] => .no
 | i :: is => if rdyB ops listed i then .alt i (needB ops ms i) (k (listed.set i true)) (altS ops ms listed k is) else altS ops ms listed k is
def anyRdy (ops : List Oper) (listed : List Bool) : Bool := (List.range ops.length).any fun i => rdyB ops listed i
def mkSch (ops : List Oper) (ms : List MOper) : Nat → List Bool → Sch
 | 0, listed => if anyRdy ops listed then .bad else .done
 | n + 1, listed => match pickB ops ms listed (List.range ops.length) with
  | some i => .take i (mkSch ops ms n (listed.set i true))
  | none => if anyRdy ops listed then altS ops ms listed (fun l => mkSch ops ms n l) (List.range ops.length) else .bad
def compC (P : Program) (N : Nat) : Code → MCode
 | .skip => .skip
 | .region _ ops draw =>
  match compOps P N ops.toList ops.toList with
  | some ms => if draw then (if ops.toList.all noSelect && P.follows .mixedOrders then .draw ms (mkSch ops.toList ms ops.toList.length (List.replicate ops.toList.length false)) else .fail) else .ops ms
  | none => .fail
 | .seq a b => .seq (compC P N a) (compC P N b)
 | .cond c x y => match opd N c with | some c => .cond c (compC P N x) (compC P N y) | none => .fail
 | .block id c => .block id (compC P N c)
 | .loop c => .loop (compC P N c)
 | .exit id => .exit id
 | .ret => .ret
 | .scope c => compC P N c
 | .label _ => .skip
 | c => .raw c
def compRes (P : Program) (N : Nat) : List ResultVar → Option (List MRes)
 | [] => some []
 | .tmp t :: rs => if t < N then bindV (compRes P N rs) fun r => some (.tmp t :: r) else none
 | .cell a t :: rs => if a < N then bindV (isAggB P t) fun g => bindV (szOf P t) fun n => bindV (compRes P N rs) fun r => some (.cell a n g :: r) else none
end Go.Proofs.YtcgbhcgfdcfmaaaGreat.MX
