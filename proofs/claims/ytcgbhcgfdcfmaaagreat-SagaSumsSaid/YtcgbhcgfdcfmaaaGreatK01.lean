import Derived.OrdersHeld
import Derived.Below
import Derived.KernelRfl
import Derived.Tactics
import Derived.Tactics2
namespace Go.Proofs.YtcgbhcgfdcfmaaaGreat.MX
open Go Go.Proofs
set_option linter.unusedSimpArgs false
set_option linter.unusedVariables false
theorem l_a : type_of% @Nat.le_of_ble_eq_true := @Nat.le_of_ble_eq_true
theorem l_b : type_of% @Array.size_setIfInBounds := @Array.size_setIfInBounds
theorem l_c : type_of% @Array.size_push := @Array.size_push
theorem l_d : type_of% @List.not_mem_nil := @List.not_mem_nil
theorem l_e : type_of% @List.mem_cons := @List.mem_cons
theorem l_f : type_of% @List.length_cons := @List.length_cons
theorem l_g : type_of% @List.length_nil := @List.length_nil
theorem l_h : type_of% @List.set_cons_zero := @List.set_cons_zero
theorem l_i : type_of% @List.set_cons_succ := @List.set_cons_succ
theorem l_j : type_of% @List.cons_append := @List.cons_append
theorem l_k : type_of% @List.nil_append := @List.nil_append
theorem l_l : type_of% @List.mem_cons_of_mem := @List.mem_cons_of_mem
theorem l_m : type_of% @List.length_append := @List.length_append
theorem l_n : type_of% @List.mem_cons_self := @List.mem_cons_self
theorem l_o : type_of% @List.getElem?_cons_zero := @List.getElem?_cons_zero
theorem l_p : type_of% @List.getElem?_cons_succ := @List.getElem?_cons_succ
theorem l_q : type_of% @List.append_assoc := @List.append_assoc
theorem l_r : type_of% @List.getElem?_eq_getElem := @List.getElem?_eq_getElem
theorem l_s : type_of% @List.getD_eq_getElem?_getD := @List.getD_eq_getElem?_getD
theorem l_t : type_of% @List.take_succ_eq_append_getElem := @List.take_succ_eq_append_getElem
theorem l_u : type_of% @Int.eq_ofNat_of_zero_le := @Int.eq_ofNat_of_zero_le
theorem l_v : type_of% @List.getElem_mem := @List.getElem_mem
theorem l_w : type_of% @Option.isSome_none := @Option.isSome_none
theorem l_x : type_of% @Option.isSome_some := @Option.isSome_some
theorem l_y : type_of% @List.mem_append := @List.mem_append
theorem l_z : type_of% @List.length_map := @List.length_map
theorem Q9 : type_of% @List.mem_singleton := @List.mem_singleton
theorem O2 : type_of% @not_false_eq_true := @not_false_eq_true
theorem b9l : type_of% @not_true_eq_false := @not_true_eq_false
theorem u6 : type_of% @List.length_take := @List.length_take
theorem W4 : type_of% @List.getElem_map := @List.getElem_map
theorem a0q : type_of% @List.getElem_of_mem := @List.getElem_of_mem
theorem a1R : type_of% @List.getElem?_map := @List.getElem?_map
theorem C1 : type_of% @List.length_replicate := @List.length_replicate
theorem a3r : type_of% @List.mem_map_of_mem := @List.mem_map_of_mem
theorem E8 : type_of% @List.take_length := @List.take_length
theorem P0 : type_of% @List.length_set := @List.length_set
theorem N5 : type_of% @List.map_append := @List.map_append
theorem C4 : type_of% @List.append_nil := @List.append_nil
theorem a0t : type_of% @List.take_zero := @List.take_zero
theorem a3L : type_of% @List.drop_zero := @List.drop_zero
theorem M7 : type_of% @Int.toNat_natCast := @Int.toNat_natCast
theorem a5D : type_of% @List.take_succ_cons := @List.take_succ_cons
theorem C6 : type_of% @List.take_append_drop := @List.take_append_drop
theorem v8 : type_of% @Nat.le_refl := @Nat.le_refl
theorem U6 : type_of% @List.drop_eq_getElem_cons := @List.drop_eq_getElem_cons
theorem x5 : type_of% @Nat.mul_one := @Nat.mul_one
theorem H8 : type_of% @List.length_drop := @List.length_drop
theorem a0U : type_of% @Array.getD_eq_getD_getElem? := @Array.getD_eq_getD_getElem?
theorem F3 : type_of% @List.sum_cons := @List.sum_cons
theorem G0 : type_of% @List.map_cons := @List.map_cons
theorem Z0 : type_of% @Nat.mul_le_mul_right := @Nat.mul_le_mul_right
theorem T0 : type_of% @List.flatMap_cons := @List.flatMap_cons
theorem a0z : type_of% @List.mem_append_left := @List.mem_append_left
theorem a1e : type_of% @List.take_of_length_le := @List.take_of_length_le
theorem a0S : type_of% @List.mem_of_mem_take := @List.mem_of_mem_take
theorem a1u : type_of% @List.pairwise_append := @List.pairwise_append
theorem a0V : type_of% @List.flatMap_append := @List.flatMap_append
theorem a5Y : type_of% @List.eq_nil_of_length_eq_zero := @List.eq_nil_of_length_eq_zero
theorem a2P : type_of% @List.mem_append_right := @List.mem_append_right
theorem a3b : type_of% @List.getElem?_eq_none := @List.getElem?_eq_none
theorem M1 : type_of% @Nat.add_mul := @Nat.add_mul
theorem a9v : type_of% @List.findIdx?_eq_some_iff_getElem := @List.findIdx?_eq_some_iff_getElem
theorem a0o : type_of% @List.sum_append := @List.sum_append
theorem a5S : type_of% @List.getElem?_append_right := @List.getElem?_append_right
theorem T2 : type_of% @Nat.add_zero := @Nat.add_zero
theorem a4o : type_of% @List.set_append_right := @List.set_append_right
theorem a4l : type_of% @Array.getElem?_toList := @Array.getElem?_toList
theorem a1Q : type_of% @Bool.and_eq_true := @Bool.and_eq_true
theorem U5 : type_of% @Nat.mul_comm := @Nat.mul_comm
theorem U3 : type_of% @Nat.le_trans := @Nat.le_trans
theorem a3O : type_of% @Nat.add_sub_cancel := @Nat.add_sub_cancel
abbrev c9 := Array Obj
abbrev Env := Nat → Value
def upd (ρ : Env) (d : Nat) (v : Value) : Env := fun t => if t = d then v else ρ t
def H5 (ρ : Env) (d : Option Nat) (v : Value) : Env := match d with | some d => upd ρ d v | none => ρ
theorem b3u (ρ : Env) (d : Nat) (v : Value) : H5 ρ (some d) v = upd ρ d v := rfl
theorem b2i (ρ : Env) (v : Value) : H5 ρ none v = ρ := rfl
inductive Opd where
 | t (n : Nat)
 | c (v : Value)
def ev (ρ : Env) : Opd → Value
 | .t n => ρ n
 | .c v => v
def blk (h : c9) (b : Nat) : Option (List Value × Nat × (Nat × Nat)) :=
 match h[b]? with
 | some (.cells c e f) => some (c.toList, e, f)
 | _ => none
def rdN (h : c9) (b off n : Nat) : Option (List Value) :=
 match blk h b with
 | some (c, _, _) => if off + n ≤ c.length then some ((c.drop off).take n) else none
 | none => none
def rdA (h : c9) (v : Value) (n : Nat) : Option (List Value) :=
 match v with
 | .pointer (some ⟨b, off, none⟩) => rdN h b off n
 | _ => none
def rd1 (h : c9) (v : Value) : Option Value :=
 match rdA h v 1 with
 | some [x] => some x
 | _ => none
def t7 (c : List Value) (off : Nat) : List Value → List Value
 | [] => c
 | v :: vs => t7 (c.set off v) (off + 1) vs
def cellsOf (v : Value) : List Value := v.cells.toList
def pC : List Value → Bool
 | [] => true
 | v :: vs => v.oneCell' && pC vs
def wrW (h : c9) (v : Value) (cs : List Value) (K : c9 → Prop) : Prop :=
 match v with
 | .pointer (some ⟨b, off, none⟩) =>
  match blk h b with
  | some (c, e, f) => (off + cs.length ≤ c.length ∧ (f.2 ≤ f.1 ∨ off + cs.length ≤ f.1 ∨ f.2 ≤ off) ∧ pC cs = true) ∧ K (h.setIfInBounds b (.cells (t7 c off cs).toArray e f))
  | none => False
 | _ => False
def H3 {α : Type} (x : Option α) (K : α → Prop) : Prop := match x with | some v => K v | none => False
def F5 (op : BinOp) (k : IntKind) (a b : Int) : Option Value :=
 match op with
 | .add => some (.int k (k.wrap (a + b)))
 | .sub => some (.int k (k.wrap (a - b)))
 | .mul => some (.int k (k.wrap (a * b)))
 | .quo => if b = 0 then none else some (.int k (k.wrap (a.tdiv b)))
 | .rem => if b = 0 then none else some (.int k (a.tmod b))
 | .and => some (.int k (k.wrap (BitVec.ofInt k.bits a &&& BitVec.ofInt k.bits b).toNat))
 | .or => some (.int k (k.wrap (BitVec.ofInt k.bits a ||| BitVec.ofInt k.bits b).toNat))
 | .xor => some (.int k (k.wrap (BitVec.ofInt k.bits a ^^^ BitVec.ofInt k.bits b).toNat))
 | .andNot => some (.int k (k.wrap (BitVec.ofInt k.bits a &&& ~~~ BitVec.ofInt k.bits b).toNat))
 | .eql => some (.bool (a == b))
 | .neq => some (.bool (a != b))
 | .lss => some (.bool (a < b))
 | .leq => some (.bool (a ≤ b))
 | .gtr => some (.bool (a > b))
 | .geq => some (.bool (a ≥ b))
 | _ => none
def v6 (op : BinOp) (x y : Value) : Option Value :=
 match x, y with
 | .int k a, .int k' b =>
  match op with
  | .shl => if b < 0 then none else some (.int k (k.wrap (a * 2 ^ (min b.toNat k.bits))))
  | .shr => if b < 0 then none else some (.int k (a.fdiv (2 ^ (min b.toNat k.bits))))
  | _ => if k = k' then F5 op k a b else none
 | .string a, .string b =>
  match op with
  | .eql => some (.bool (a.toList == b.toList))
  | .neq => some (.bool (!(a.toList == b.toList)))
  | _ => none
 | _, _ => none
inductive EK where
 | b | p | s | m | f
def eqV (k : EK) (x y : Value) : Option Bool :=
 match k, x, y with
 | .b, .bool a, .bool b => some (a == b)
 | .p, .pointer none, .pointer b => some b.isNone
 | .p, .pointer (some _), .pointer none => some false
 | .s, .slice none _ _, .slice b _ _ => some b.isNone
 | .s, .slice (some _) _ _, .slice none _ _ => some false
 | .m, .map none, .map b => some b.isNone
 | .m, .map (some _), .map none => some false
 | .f, .nilFunc, .nilFunc => some true
 | .f, .nilFunc, .func _ _ _ => some false
 | .f, .func _ _ _, .nilFunc => some false
 | _, _, _ => none
def unV (op : UnOp) (x : Value) : Option Value :=
 match op, x with
 | .neg, .int k n => some (.int k (k.wrap (0 - n)))
 | .xor, .int k n => F5 .xor k (if k.signed then -1 else k.max) n
 | .not, .bool b => some (.bool !b)
 | _, _ => none
def a1y (x : Value) (n : Nat) : Option Value :=
 match x with
 | .pointer (some a) => some (.pointer (some (a.add n)))
 | _ => none
def a6d (sz : Nat) (x i : Value) : Option Value :=
 match x, i with
 | .slice (some a) len _, .int _ i => if 0 ≤ i ∧ i < len then some (.pointer (some (a.add (i.toNat * sz)))) else none
 | _, _ => none
def a6D (len sz : Nat) (x i : Value) : Option Value :=
 match x, i with
 | .pointer (some a), .int _ i => if 0 ≤ i ∧ i < len then some (.pointer (some (a.add (i.toNat * sz)))) else none
 | _, _ => none
def bnd (x : Option Value) (d : Nat) : Option Int :=
 match x with
 | none => some d
 | some (.int _ i) => some i
 | _ => none
def i5 {α β : Type} (x : Option α) (K : α → Option β) : Option β := match x with | some v => K v | none => none
theorem a9W {α β : Type} (v : α) (K : α → Option β) : i5 (some v) K = K v := rfl
def a1T (a : Option Addr) (sz : Nat) (l h m cap : Int) : Option Value :=
 if 0 ≤ l ∧ l ≤ h ∧ h ≤ m ∧ m ≤ cap then
  some (.slice (if m = l then a else a.map (·.add (l.toNat * sz))) (h - l).toNat (m - l).toNat) else none
def a2I (sz : Nat) (x : Value) (lo hi mx : Option Value) : Option Value :=
 match x with
 | .slice a len cap => i5 (bnd lo 0) fun l => i5 (bnd hi len) fun h => i5 (bnd mx cap) fun m => a1T a sz l h m cap
 | _ => none
def a0F (n sz : Nat) (x : Value) (lo hi mx : Option Value) : Option Value :=
 match x with
 | .pointer (some a) => i5 (bnd lo 0) fun l => i5 (bnd hi n) fun h => i5 (bnd mx n) fun m => a1T (some a) sz l h m n
 | _ => none
def a4A (x : Value) (lo hi : Option Value) : Option Value :=
 match x with
 | .string s => i5 (bnd lo 0) fun l => i5 (bnd hi s.size) fun h =>
   if 0 ≤ l ∧ l ≤ h ∧ h ≤ s.size then some (.string (s.extract l.toNat h.toNat)) else none
 | _ => none
def a7S (str : Bool) (x : Value) : Option Value :=
 match str, x with
 | true, .string s => some (.int .i64 s.size)
 | false, .slice _ n _ => some (.int .i64 n)
 | _, _ => none
def b5S (x : Value) : Option Value :=
 match x with
 | .slice _ _ c => some (.int .i64 c)
 | _ => none
def b5o : Value → Value → Option Value
 | .int k x, .int _ y => some (.int k (if y < x then y else x))
 | _, _ => none
def b4G : Value → Value → Option Value
 | .int k x, .int _ y => some (.int k (if y > x then y else x))
 | _, _ => none
def a1W (f : Value → Value → Option Value) : Value → List Value → Option Value
 | x, [] => some x
 | x, y :: ys => i5 (f x y) fun z => a1W f z ys
def a1h (off n : Nat) (agg : Bool) (x : Value) : Option Value :=
 match x with
 | .agg cs => if agg then some (.agg (cs.extract off (off + n))) else cs[off]?
 | _ => none
def a4i (len sz : Nat) (agg : Bool) (x i : Value) : Option Value :=
 match x, i with
 | .agg cs, .int _ i => if 0 ≤ i ∧ i < len then (if agg then some (.agg (cs.extract (i.toNat * sz) (i.toNat * sz + sz))) else cs[i.toNat * sz]?) else none
 | _, _ => none
def a4M (x i : Value) : Option Value :=
 match x, i with
 | .string s, .int _ i => if 0 ≤ i ∧ i < s.size then some (.int .u8 ((s[i.toNat]?.getD 0).toNat)) else none
 | _, _ => none
def a6b (x : Value) (i : Nat) : Option Value :=
 match x with
 | .tuple vs => vs[i]?
 | _ => none
def a8Y (c a b : Value) : Option Value :=
 match c with
 | .bool c => some (if c then a else b)
 | _ => none
def b6s (x : Value) : Option Value :=
 match x with
 | .pointer (some a) => some (.pointer (some a))
 | .func (.func f) a b => some (.func (.func f) a b)
 | .slice a n c => some (.slice a n c)
 | _ => none
def a8m (k : IntKind) (x : Value) : Option Value :=
 match x with
 | .int _ n => some (.int k (k.wrap n))
 | _ => none
def V6 (zero : List Value) : List (Nat × Nat × Value) → Option (List Value)
 | [] => some zero
 | (off, size, v) :: rest => if (cellsOf v).length = size ∧ off + size ≤ zero.length then V6 (t7 zero off (cellsOf v)) rest else none
inductive CK where
 | i | b | s
def Y3 : CK → Value → Value → Option Bool
 | .i, .int k a, .int k' b => if k = k' then some (a == b) else none
 | .b, .bool a, .bool b => some (a == b)
 | .s, .string a, .string b => some (a.toList == b.toList)
 | _, _, _ => none
def eqK : List CK → List Value → List Value → Option Bool
 | [], [], [] => some true
 | k :: ks, x :: xs, y :: ys => i5 (Y3 k x y) fun b => i5 (eqK ks xs ys) fun c => some (b && c)
 | _, _, _ => none
def b2j (ks : List CK) (x y : Value) : Option Bool :=
 match x, y with
 | .agg xs, .agg ys => eqK ks xs.toList ys.toList
 | _, _ => none
inductive j6 where
 | mov (x : Opd)
 | pick (c a b : Opd)
 | build (zero : List Value) (parts : List (Nat × Nat × Opd))
 | nilchk (x : Opd)
 | bin (op : BinOp) (x y : Opd)
 | eq (k : EK) (neg : Bool) (x y : Opd)
 | eqA (ks : List CK) (neg : Bool) (x y : Opd)
 | un (op : UnOp) (x : Opd)
 | conv (k : IntKind) (x : Opd)
 | addOff (x : Opd) (n : Nat)
 | idxS (sz : Nat) (x i : Opd)
 | idxA (len sz : Nat) (x i : Opd)
 | cutS (sz : Nat) (x : Opd) (lo hi mx : Option Opd)
 | cutA (n sz : Nat) (x : Opd) (lo hi mx : Option Opd)
 | cutT (x : Opd) (lo hi : Option Opd)
 | len (str : Bool) (x : Opd)
 | lenA (n : Nat)
 | cap (x : Opd)
 | min (x : Opd) (ys : List Opd)
 | max (x : Opd) (ys : List Opd)
 | field (off n : Nat) (agg : Bool) (x : Opd)
 | idxG (len sz : Nat) (agg : Bool) (x i : Opd)
 | idxT (x i : Opd)
 | extr (x : Opd) (i : Nat)
 | func (f : Fn) (first captured : List Opd)
def j6.val (ρ : Env) : j6 → Option Value
 | .mov x => some (ev ρ x)
 | .pick c a b => a8Y (ev ρ c) (ev ρ a) (ev ρ b)
 | .build zero parts => i5 (V6 zero (parts.map fun p => (p.1, p.2.1, ev ρ p.2.2))) fun cs => some (.agg cs.toArray)
 | .nilchk x => b6s (ev ρ x)
 | .bin op x y => v6 op (ev ρ x) (ev ρ y)
 | .eq k neg x y => i5 (eqV k (ev ρ x) (ev ρ y)) fun b => some (.bool (if neg then !b else b))
 | .eqA ks neg x y => i5 (b2j ks (ev ρ x) (ev ρ y)) fun b => some (.bool (if neg then !b else b))
 | .un op x => unV op (ev ρ x)
 | .conv k x => a8m k (ev ρ x)
 | .addOff x n => a1y (ev ρ x) n
 | .idxS sz x i => a6d sz (ev ρ x) (ev ρ i)
 | .idxA ln sz x i => a6D ln sz (ev ρ x) (ev ρ i)
 | .cutS sz x lo hi mx => a2I sz (ev ρ x) (lo.map (ev ρ)) (hi.map (ev ρ)) (mx.map (ev ρ))
 | .cutA n sz x lo hi mx => a0F n sz (ev ρ x) (lo.map (ev ρ)) (hi.map (ev ρ)) (mx.map (ev ρ))
 | .cutT x lo hi => a4A (ev ρ x) (lo.map (ev ρ)) (hi.map (ev ρ))
 | .len str x => a7S str (ev ρ x)
 | .lenA n => some (.int .i64 n)
 | .cap x => b5S (ev ρ x)
 | .min x ys => a1W b5o (ev ρ x) (ys.map (ev ρ))
 | .max x ys => a1W b4G (ev ρ x) (ys.map (ev ρ))
 | .field off n agg x => a1h off n agg (ev ρ x)
 | .idxG ln sz agg x i => a4i ln sz agg (ev ρ x) (ev ρ i)
 | .idxT x i => a4M (ev ρ x) (ev ρ i)
 | .extr x i => a6b (ev ρ x) i
 | .func f first captured => some (.func f (first.map (ev ρ)).toArray (captured.map (ev ρ)).toArray)
inductive a1w where
 | load1 (a : Opd)
 | loadN (n : Nat) (a : Opd)
def a1w.val (ρ : Env) (h : c9) : a1w → Option Value
 | .load1 a => rd1 h (ev ρ a)
 | .loadN n a => i5 (rdA h (ev ρ a) n) fun cs => some (.agg cs.toArray)
def u5 (h : c9) (sz n : Nat) (x : Value) : Option (List Value) :=
 match x with
 | .slice none _ _ => some []
 | .slice (some a) _ _ => if n * sz = 0 then some [] else rdA h (.pointer (some a)) (n * sz)
 | .string s => some ((s.data.toList.take n).map fun b => .int .u8 b.toNat)
 | _ => none
def a0E (x : Value) : Option Nat :=
 match x with
 | .slice _ n _ => some n
 | .string s => some s.size
 | _ => none
def l5 (zero : List Value) : Nat → List Value
 | 0 => []
 | n + 1 => zero ++ l5 zero n
def G6 (w w' : World) : Prop := w'.os = w.os ∧ w'.tape = w.tape ∧ w'.output = w.output
def d8 (P : Program) (f : FuncId) (args : List Value) (h : c9) (R : Value → c9 → Prop) : Prop :=
 ∀ w : World, w.heap = h → Calls P f args.toArray w fun e w' => ∃ v, e = .returned v ∧ G6 w w' ∧ R v w'.heap
def a2r (P : Program) (f : FuncId) : Bool :=
 match P.funcs[f]? with
 | some fn => fn.body.isSome && !(fn.name == "runtime.NumGoroutine")
 | none => false
inductive Eff where
 | alloc (T : Nat) (zero : List Value)
 | box (T : Nat) (x : Opd)
 | bslice (T len : Nat) (zero : List Value) (parts : List (Nat × Nat × Opd))
 | store (n : Nat) (a x : Opd)
 | append (T sz bytes : Nat) (zero : List Value) (x y : Opd)
 | copy (sz : Nat) (x y : Opd)
 | clear (sz : Nat) (zero : List Value) (x : Opd)
 | s2b (T : Nat) (x : Opd)
 | mkslice (T sz bytes : Nat) (zero : List Value) (len cap : Opd)
 | call (f : FuncId) (args : List Opd)
 | callv (x : Opd) (args : List Opd)
 | any (o : Oper)
def a7J (T sz bytes : Nat) (zero : List Value) (x y : Value) (h : c9) (K : Value → c9 → Prop) : Prop :=
 match x with
 | .slice base n c =>
  H3 (a0E y) fun m => H3 (u5 h sz m y) fun new =>
   if n + m ≤ c then
    (match base with
     | some a => if new = [] then K (.slice base (n + m) c) h else wrW h (.pointer (some (a.add (n * sz)))) new fun h' => K (.slice base (n + m) c) h'
     | none => K (.slice base (n + m) c) h)
   else H3 (u5 h sz n x) fun old =>
    (n + m) * bytes ≤ 140737488355328 ∧ n + m ≤ 9223372036854775807 ∧
    ∀ cap, n + m ≤ cap → cap < 9223372036854775808 → K (.slice (some ⟨h.size, 0, none⟩) (n + m) cap) (h.push (.cells (old ++ new ++ l5 zero (cap - (n + m))).toArray T (0, 0)))
 | _ => False
def a6n (sz : Nat) (x y : Value) (h : c9) (K : Value → c9 → Prop) : Prop :=
 match x with
 | .slice base n _ =>
  H3 (a0E y) fun m => H3 (u5 h sz (min m n) y) fun new =>
   match base with
   | some a => if new = [] then K (.int .i64 (min m n : Nat)) h else wrW h (.pointer (some a)) new fun h' => K (.int .i64 (min m n : Nat)) h'
   | none => K (.int .i64 (min m n : Nat)) h
 | _ => False
def a3K (zero : List Value) (x : Value) (h : c9) (K : Value → c9 → Prop) : Prop :=
 match x with
 | .slice base n _ =>
  match base with
  | some a => if n = 0 then K (.tuple #[]) h else wrW h (.pointer (some a)) (l5 zero n) fun h' => K (.tuple #[]) h'
  | none => K (.tuple #[]) h
 | _ => False
def b3X (T : Nat) (x : Value) (h : c9) (K : Value → c9 → Prop) : Prop :=
 match x with
 | .string s => s.size ≤ 9223372036854775807 ∧ ∀ cap, s.size ≤ cap → cap < 9223372036854775808 → K (.slice (some ⟨h.size, 0, none⟩) s.size cap) (h.push (.cells ((s.data.toList.map fun b : UInt8 => Value.int .u8 b.toNat) ++ List.replicate (cap - s.size) (Value.int .u8 0)).toArray T (cap, cap + 1)))
 | _ => False
def mkW (T bytes : Nat) (zero : List Value) (l c : Value) (h : c9) (K : Value → c9 → Prop) : Prop :=
 match l, c with
 | .int .i64 l, .int .i64 c => (0 ≤ l ∧ l ≤ c ∧ c < 9223372036854775808 ∧ c * bytes ≤ 281474976710656) ∧
   K (.slice (some ⟨h.size, 0, none⟩) l.toNat c.toNat) (h.push (.cells (l5 zero c.toNat).toArray T (0, 0)))
 | _, _ => False
def a2n (P : Program) (x : Value) (args : List Value) (h : c9) (K : Value → c9 → Prop) : Prop :=
 match x with
 | .func (.func f) first captured => a2r P f = true ∧ d8 P f (first.toList ++ args ++ captured.toList) h K
 | _ => False
def Eff.wp (P : Program) (ρ : Env) (h : c9) (K : Value → c9 → Prop) : Eff → Prop
 | .alloc T zero => K (.pointer (some ⟨h.size, 0, none⟩)) (h.push (.cells zero.toArray T (0, 0)))
 | .box T x => K (.pointer (some ⟨h.size, 0, none⟩)) (h.push (.cells (cellsOf (ev ρ x)).toArray T (0, 0)))
 | .bslice T len zero parts => H3 (V6 (l5 zero len) (parts.map fun p => (p.1, p.2.1, ev ρ p.2.2))) fun cs =>
   K (.slice (some ⟨h.size, 0, none⟩) len len) (h.push (.cells cs.toArray T (0, 0)))
 | .store n a x => (cellsOf (ev ρ x)).length = n ∧ wrW h (ev ρ a) (cellsOf (ev ρ x)) fun h' => K undef h'
 | .append T sz bytes zero x y => a7J T sz bytes zero (ev ρ x) (ev ρ y) h K
 | .copy sz x y => a6n sz (ev ρ x) (ev ρ y) h K
 | .clear _ zero x => a3K zero (ev ρ x) h K
 | .s2b T x => b3X T (ev ρ x) h K
 | .mkslice T _ bytes zero l c => mkW T bytes zero (ev ρ l) (ev ρ c) h K
 | .call f args => d8 P f (args.map (ev ρ)) h K
 | .callv x args => a2n P (ev ρ x) (args.map (ev ρ)) h K
 | .any o => ∀ (w : World) (a : Act), w.heap = h → (∀ x ∈ o.op.operands, a.eval x = (match x with | .tmp t => ρ t | .const v => v | .global g => .pointer (some ⟨g, 0, none⟩) | .func f => .func (.func f) #[] #[])) →
   ∃ v w', ((execOp a.eval o).run P w = .ok (.value v) w' ∨ ((execOp a.eval o).run P w = .ok .skip w' ∧ v = undef)) ∧ G6 w w' ∧ K v w'.heap
inductive MOp where
 | p (x : j6)
 | r (x : a1w)
 | e (x : Eff)
def MOp.wp (P : Program) (ρ : Env) (h : c9) (K : Value → c9 → Prop) : MOp → Prop
 | .p x => H3 (x.val ρ) fun v => K v h
 | .r x => H3 (x.val ρ h) fun v => K v h
 | .e x => x.wp P ρ h K
structure j2 where
 dst : Option Nat
 op : MOp
 guard : Option (Nat × Bool)
def I7 (ρ : Env) : Option (Nat × Bool) → Bool
 | none => true
 | some (s, want) => match ρ s with | .bool b => b == want | _ => false
def G9 (b : Bool) (X Y : Prop) : Prop := if b = true then X else Y
def J9 (P : Program) : List j2 → (Env → c9 → Prop) → Env → c9 → Prop
 | [], K, ρ, h => K ρ h
 | o :: os, K, ρ, h => G9 (I7 ρ o.guard) (o.op.wp P ρ h fun v h' => J9 P os K (H5 ρ o.dst v) h') (J9 P os K (H5 ρ o.dst undef) h)
inductive Sch where
 | done
 | take (i : Nat) (k : Sch)
 | alt (i : Nat) (ns : Bool) (k : Sch) (more : Sch)
 | no
 | bad
def F9 (P : Program) (S : c9 → Prop) (ops : List j2) (K : Env → c9 → Prop) : Sch → Env → c9 → Prop
 | .done, ρ, h => K ρ h
 | .take i k, ρ, h => match ops[i]? with
  | some o => G9 (I7 ρ o.guard)
    (match o.op with
     | .p x => H3 (x.val ρ) fun v => F9 P S ops K k (H5 ρ o.dst v) h
     | .r x => ∃ v, (∀ h', S h' → x.val ρ h' = some v) ∧ F9 P S ops K k (H5 ρ o.dst v) h
     | .e _ => False)
    (F9 P S ops K k (H5 ρ o.dst undef) h)
  | none => False
 | .alt i ns k more, ρ, h => (match ops[i]? with
  | some o => G9 (I7 ρ o.guard) (o.op.wp P ρ h fun v h' => (ns = true → S h') ∧ F9 P S ops K k (H5 ρ o.dst v) h') (F9 P S ops K k (H5 ρ o.dst undef) h)
  | none => False) ∧ F9 P S ops K more ρ h
 | .no, _, _ => True
 | .bad, _, _ => False
inductive j3 where
 | skip
 | fail
 | ops (l : List j2)
 | draw (l : List j2) (s : Sch)
 | seq (a b : j3)
 | cond (c : Opd) (x y : j3)
 | block (id : Nat) (c : j3)
 | loop (c : j3)
 | exit (id : Nat)
 | ret
 | raw (c : Code)
inductive D5 where
 | normal
 | exit (id : Nat)
 | ret
def Q6 (k : Env → c9 → Prop) (Q : D5 → Env → c9 → Prop) : D5 → Env → c9 → Prop
 | .normal, ρ, h => k ρ h
 | e, ρ, h => Q e ρ h
def a2w (id : Nat) (Q : D5 → Env → c9 → Prop) : D5 → Env → c9 → Prop
 | .exit id', ρ, h => if id' = id then Q .normal ρ h else Q (.exit id') ρ h
 | e, ρ, h => Q e ρ h
def a0Q (v : Value) (X Y : Prop) : Prop := match v with | .bool b => if b = true then X else Y | _ => False
def mwp (P : Program) : j3 → (D5 → Env → c9 → Prop) → Env → c9 → Prop
 | .skip, Q, ρ, h => Q .normal ρ h
 | .fail, _, _, _ => False
 | .raw _, _, _, _ => False
 | .ops l, Q, ρ, h => J9 P l (fun ρ h => Q .normal ρ h) ρ h
 | .draw l s, Q, ρ, h => ∃ S : c9 → Prop, S h ∧ F9 P S l (fun ρ h => Q .normal ρ h) s ρ h
 | .seq a b, Q, ρ, h => mwp P a (Q6 (mwp P b Q) Q) ρ h
 | .cond c x y, Q, ρ, h => a0Q (ev ρ c) (mwp P x Q ρ h) (mwp P y Q ρ h)
 | .block id c, Q, ρ, h => mwp P c (a2w id Q) ρ h
 | .loop c, Q, ρ, h => ∃ (I : Env → c9 → Prop) (μ : Env → c9 → Nat), I ρ h ∧ ∀ ρ h, I ρ h → mwp P c (Q6 (fun ρ' h' => I ρ' h' ∧ μ ρ' h' < μ ρ h) Q) ρ h
 | .exit id, Q, ρ, h => Q (.exit id) ρ h
 | .ret, Q, ρ, h => Q .ret ρ h
inductive a2f where
 | tmp (t : Nat)
 | cell (t n : Nat) (agg : Bool)
def b3R (ρ : Env) (h : c9) : a2f → Option Value
 | .tmp t => some (ρ t)
 | .cell t n agg => if agg then i5 (rdA h (ρ t) n) fun cs => some (.agg cs.toArray) else rd1 h (ρ t)
def a0R (ρ : Env) (h : c9) : List a2f → Option (List Value)
 | [] => some []
 | r :: rs => i5 (b3R ρ h r) fun v => i5 (a0R ρ h rs) fun vs => some (v :: vs)
def a1g : List Value → Value
 | [v] => v
 | vs => .tuple vs.toArray
def b6k (rs : List a2f) (R : Value → c9 → Prop) : D5 → Env → c9 → Prop
 | .normal, ρ, h => H3 (a0R ρ h rs) fun vs => R (a1g vs) h
 | .ret, ρ, h => H3 (a0R ρ h rs) fun vs => R (a1g vs) h
 | .exit _, _, _ => False
def V8 (args : List Value) : Env := fun t => args.getD t undef
def opd (N : Nat) : Operand → Option Opd
 | .tmp t => if t < N then some (.t t) else none
 | .const v => some (.c v)
 | .global g => some (.c (.pointer (some ⟨g, 0, none⟩)))
 | .func f => some (.c (.func (.func f) #[] #[]))
def a8h (N : Nat) : List Operand → Option (List Opd)
 | [] => some []
 | x :: xs => i5 (opd N x) fun y => i5 (a8h N xs) fun ys => some (y :: ys)
def b5v (N : Nat) : Option Operand → Option (Option Opd)
 | none => some none
 | some x => i5 (opd N x) fun y => some (some y)
def C2 (P : Program) (t : TypeId) : Option Nat := match P.info? t with | some i => some i.size | none => none
def N3 (P : Program) (t : TypeId) : Option Nat := match P.info? t with | some i => some i.bytes | none => none
def P4 (P : Program) (t : TypeId) : Option (List Value) :=
 match P.info? t with
 | some i => match i.zero with | some v => some (cellsOf v) | none => none
 | none => none
def u7 (P : Program) (t : TypeId) : Option Bool :=
 match P.underlying t with
 | some (.struct _) => some true
 | some (.array _ _) => some true
 | some _ => some false
 | none => none
def a2v (P : Program) (fs : List Field) (i : Nat) : Option (Nat × Nat) :=
 match fs[i]? with
 | some f => i5 (C2 P f.type) fun s => some (f.offset, s)
 | none => none
def a4t (P : Program) (rec : TypeId → Option (List CK)) : List Field → Nat → Option (List CK)
 | [], _ => some []
 | f :: fs, off => if f.offset = off ∧ (f.name == "_") = false then i5 (rec f.type) fun k => i5 (C2 P f.type) fun n => if k.length = n ∧ 0 < n then i5 (a4t P rec fs (off + n)) fun ks => some (k ++ ks) else none else none
def a3m (k : List CK) : Nat → List CK
 | 0 => []
 | n + 1 => k ++ a3m k n
def Y5 (P : Program) : Nat → TypeId → Option (List CK)
 | 0, _ => none
 | d + 1, t => match P.underlying t with
  | some (.int _) => some [.i]
  | some .bool => some [.b]
  | some .string => some [.s]
  | some (.struct fs) => if P.stoodInHeld t then none else a4t P (Y5 P d) fs.toList 0
  | some (.array n e) => i5 (Y5 P d e) fun k => i5 (C2 P e) fun m => if k.length = m ∧ 0 < m then some (a3m k n) else none
  | _ => none
def a0K (N : Nat) (place : Nat → Option (Nat × Nat)) : List (Nat × Operand) → Option (List (Nat × Nat × Opd))
 | [] => some []
 | (i, x) :: rest => i5 (place i) fun p => i5 (opd N x) fun y => i5 (a0K N place rest) fun r => some ((p.1, p.2, y) :: r)
def a5g (P : Program) : List Field → Bool
 | [] => true
 | f :: fs => (C2 P f.type).isSome && a5g P fs
def a1d (P : Program) (N : Nat) (c : Call) : Option MOp :=
 match c.callee with
 | .builtin b =>
  i5 (a8h N c.args.toList) fun xs =>
  match b, xs with
  | .len, [x] => i5 c.argTypes[0]? fun t => match P.underlying t with
   | some .string => some (.p (.len true x))
   | some (.slice _) => some (.p (.len false x))
   | some (.array n _) => some (.p (.lenA n))
   | some (.pointer a) => match P.underlying a with | some (.array n _) => some (.p (.lenA n)) | _ => none
   | _ => none
  | .cap, [x] => i5 c.argTypes[0]? fun t => match P.underlying t with
   | some (.slice _) => some (.p (.cap x))
   | _ => none
  | .min, x :: ys => some (.p (.min x ys))
  | .max, x :: ys => some (.p (.max x ys))
  | .append, [x, y] => i5 c.argTypes[0]? fun t => i5 c.argTypes[1]? fun u => match P.underlying t, P.underlying u with
   | some (.slice e), some (.slice _) => i5 (C2 P e) fun sz => i5 (N3 P e) fun by_ => i5 (P4 P e) fun z => if z.length = sz ∧ 0 < sz ∧ 0 < by_ then some (.e (.append e sz by_ z x y)) else none
   | some (.slice e), some .string => i5 (C2 P e) fun sz => i5 (N3 P e) fun by_ => i5 (P4 P e) fun z => if z.length = sz ∧ 0 < sz ∧ 0 < by_ then some (.e (.append e sz by_ z x y)) else none
   | _, _ => none
  | .copy, [x, y] => i5 c.argTypes[0]? fun t => match P.underlying t with
   | some (.slice e) => i5 (C2 P e) fun sz => if 0 < sz then some (.e (.copy sz x y)) else none
   | _ => none
  | .clear, [x] => i5 c.argTypes[0]? fun t => match P.underlying t with
   | some (.slice e) => i5 (C2 P e) fun sz => i5 (P4 P e) fun z => if z.length = sz ∧ 0 < sz then some (.e (.clear sz z x)) else none
   | _ => none
  | _, _ => none
 | .value f => i5 (opd N f) fun y => i5 (a8h N c.args.toList) fun xs =>
  match y with
  | .c (.func (.func f) a b) => if a.isEmpty && b.isEmpty && a2r P f then some (.e (.call f xs)) else none
  | .t n => some (.e (.callv (.t n) xs))
  | _ => none
 | _ => none
def b5c (N : Nat) : Operand → Bool
 | .tmp t => t < N
 | _ => true
def a4O (N : Nat) (o : Oper) : Option MOp :=
 match o.op with
 | .select _ _ => none
 | .call _ => none
 | op => if op.operands.toList.all (b5c N) then some (.e (.any o)) else none
def a3P (P : Program) (N : Nat) (o : Oper) : Option MOp :=
 match o.op with
 | .move x => i5 (opd N x) fun x => some (.p (.mov x))
 | .assign x => i5 (opd N x) fun x => some (.p (.mov x))
 | .pick c a b => i5 (opd N c) fun c => i5 (opd N a) fun a => i5 (opd N b) fun b => some (.p (.pick c a b))
 | .alloc e => i5 (P4 P e) fun z => some (.e (.alloc e z))
 | .box e x => i5 (opd N x) fun x => some (.e (.box e x))
 | .build t parts => i5 (P4 P t) fun z => match P.underlying t with
  | some (.struct fs) => if a5g P fs.toList then i5 (a0K N (a2v P fs.toList) parts.toList) fun ps => some (.p (.build z ps)) else none
  | some (.array _ e) => i5 (C2 P e) fun sz => i5 (a0K N (fun i => some (i * sz, sz)) parts.toList) fun ps => some (.p (.build z ps))
  | _ => none
 | .buildSlice t len parts => match P.underlying t with
  | some (.slice e) => i5 (C2 P e) fun sz => i5 (P4 P e) fun z => if z.length = sz ∧ 0 < sz ∧ len * sz ≤ 16777216 then
    i5 (a0K N (fun i => some (i * sz, sz)) parts.toList) fun ps => some (.e (.bslice e len z ps)) else none
  | _ => none
 | .load t a => i5 (opd N a) fun a => i5 (u7 P t) fun g => if g then i5 (C2 P t) fun n => some (.r (.loadN n a)) else some (.r (.load1 a))
 | .store t a x => i5 (opd N a) fun a => i5 (opd N x) fun x => i5 (C2 P t) fun n => some (.e (.store n a x))
 | .nilCheck x => i5 (opd N x) fun x => some (.p (.nilchk x))
 | .binOp op t x y _ => i5 (opd N x) fun x' => i5 (opd N y) fun y' => match P.underlying t with
  | some (.int _) => some (.p (.bin op x' y'))
  | some .string => some (.p (.bin op x' y'))
  | some .bool => (match op with | .eql => some (.p (.eq .b false x' y')) | .neq => some (.p (.eq .b true x' y')) | _ => none)
  | some (.pointer _) => (match op with | .eql => some (.p (.eq .p false x' y')) | .neq => some (.p (.eq .p true x' y')) | _ => none)
  | some (.slice _) => (match op with | .eql => some (.p (.eq .s false x' y')) | .neq => some (.p (.eq .s true x' y')) | _ => none)
  | some (.map _ _) => (match op with | .eql => some (.p (.eq .m false x' y')) | .neq => some (.p (.eq .m true x' y')) | _ => none)
  | some (.func _ _ _) => (match op with | .eql => some (.p (.eq .f false x' y')) | .neq => some (.p (.eq .f true x' y')) | _ => none)
  | some (.struct _) => if P.eqGuardType P.depth t then none else i5 (Y5 P 9 t) fun ks => (match op with | .eql => some (.p (.eqA ks false x' y')) | .neq => some (.p (.eqA ks true x' y')) | _ => none)
  | some (.array _ _) => if P.eqGuardType P.depth t then none else i5 (Y5 P 9 t) fun ks => (match op with | .eql => some (.p (.eqA ks false x' y')) | .neq => some (.p (.eqA ks true x' y')) | _ => none)
  | _ => a4O N o
 | .unOp op _ x => i5 (opd N x) fun x => some (.p (.un op x))
 | .convert s d x => i5 (opd N x) fun x' => match P.underlying s, P.underlying d with
  | some (.int _), some (.int k) => some (.p (.conv k x'))
  | some .string, some (.slice e) => match P.underlying e with | some (.int .u8) => some (.e (.s2b e x')) | _ => none
  | _, _ => a4O N o
 | .makeFunc f first captured => i5 (a8h N first.toList) fun a => i5 (a8h N captured.toList) fun b => some (.p (.func f a b))
 | .makeSlice t l c => i5 (opd N l) fun l => i5 (opd N c) fun c => match P.underlying t with
  | some (.slice e) => i5 (C2 P e) fun sz => i5 (N3 P e) fun by_ => i5 (P4 P e) fun z => if z.length = sz ∧ 0 < sz then some (.e (.mkslice e sz by_ z l c)) else none
  | _ => none
 | .slice t x lo hi mx => i5 (opd N x) fun x => i5 (b5v N lo) fun lo' => i5 (b5v N hi) fun hi' => i5 (b5v N mx) fun mx' =>
  if mx.isSome && hi.isNone then none else
  match P.underlying t with
  | some (.array n e) => i5 (C2 P e) fun sz => some (.p (.cutA n sz x lo' hi' mx'))
  | some .string => if mx.isSome then none else some (.p (.cutT x lo' hi'))
  | some (.slice e) => i5 (C2 P e) fun sz => some (.p (.cutS sz x lo' hi' mx'))
  | some (.pointer a) => match P.underlying a with | some (.array n e) => i5 (C2 P e) fun sz => some (.p (.cutA n sz x lo' hi' mx')) | _ => none
  | _ => none
 | .fieldAddr t x f => i5 (opd N x) fun x => match P.underlying t with
  | some (.struct fs) => match fs.toList[f]? with
   | some fd => i5 (C2 P fd.type) fun sz => if sz = 0 then none else some (.p (.addOff x fd.offset))
   | none => none
  | _ => none
 | .field t x f => i5 (opd N x) fun x => match P.underlying t with
  | some (.struct fs) => match fs.toList[f]? with
   | some fd => i5 (C2 P fd.type) fun sz => i5 (u7 P fd.type) fun g => some (.p (.field fd.offset sz g x))
   | none => none
  | _ => none
 | .indexAddr t x i => i5 (opd N x) fun x => i5 (opd N i) fun i => match P.underlying t with
  | some (.slice e) => i5 (C2 P e) fun sz => some (.p (.idxS sz x i))
  | some (.array n e) => i5 (C2 P e) fun sz => some (.p (.idxA n sz x i))
  | _ => none
 | .index t x i => i5 (opd N x) fun x => i5 (opd N i) fun i => match P.underlying t with
  | some .string => some (.p (.idxT x i))
  | some (.array n e) => i5 (C2 P e) fun sz => i5 (u7 P e) fun g => some (.p (.idxG n sz g x i))
  | _ => none
 | .extract t i => i5 (opd N t) fun x => some (.p (.extr x i))
 | .call c => match a1d P N c with
  | some m => some m
  | none => if o.op.operands.toList.all (b5c N) then some (.e (.any o)) else none
 | _ => a4O N o
def a7D (N : Nat) (ops : List Oper) : Option (Nat × Bool) → Option (Option (Nat × Bool))
 | none => some none
 | some (j, want) => match ops[j]? with
  | some o => match o.dst with
   | some d => if d < N then some (some (d, want)) else none
   | none => none
  | none => none
def b1K (N : Nat) : Option Nat → Bool
 | none => true
 | some d => d < N
def a0D (P : Program) (N : Nat) (all : List Oper) : List Oper → Option (List j2)
 | [] => some []
 | o :: os => if b1K N o.dst then i5 (a3P P N o) fun m => i5 (a7D N all o.guard) fun g => i5 (a0D P N all os) fun ms => some (⟨o.dst, m, g⟩ :: ms) else none
def a9Z (ops : List Oper) (listed : List Bool) (i : Nat) : Bool :=
 !(listed.getD i true) && (match ops[i]? with | some o => o.after.toList.all (fun e => !Region.binds .any e || listed.getD e.on false) | none => false)
def a6r : MOp → Bool
 | .e _ => true
 | _ => false
def b6Z : MOp → Bool
 | .r _ => true
 | _ => false
def b5y : Oper → Bool
 | { op := .select _ _, .. } => false
 | _ => true
def a5c (ops : List Oper) (listed : List Bool) (i : Nat) (o : Oper) : Nat → List Oper → Bool
 | _, [] => true
 | j, p :: ps => (j == i || listed.getD j true || p.after.toList.any (fun e => Region.binds .any e && e.on == i) || o.apart ops.toArray p) && a5c ops listed i o (j + 1) ps
def a2q (ops : List Oper) (i : Nat) : Nat → Nat → Bool
 | 0, _ => false
 | n + 1, j => match ops[j]? with
  | some o => o.after.toList.any fun e => Region.binds .any e && (e.on == i || a2q ops i n e.on)
  | none => false
def b0S (ops : List Oper) (ms : List j2) (j : Nat) : Bool :=
 (List.range ms.length).any fun i => (match ms[i]? with | some m => b6Z m.op && i != j && !a2q ops i ops.length j | none => false)
def a8S (ops : List Oper) (ms : List j2) (listed : List Bool) : List Nat → Option Nat
 | [] => none
 | i :: is => match ops[i]?, ms[i]? with
  | some o, some m => if a9Z ops listed i && !a6r m.op && a5c ops listed i o 0 ops then some i else a8S ops ms listed is
  | _, _ => a8S ops ms listed is
def b6I (ops : List Oper) (ms : List j2) (listed : List Bool) (k : List Bool → Sch) : List Nat → Sch
 | [] => .no
 | i :: is => if a9Z ops listed i then .alt i (b0S ops ms i) (k (listed.set i true)) (b6I ops ms listed k is) else b6I ops ms listed k is
def a5E (ops : List Oper) (listed : List Bool) : Bool := (List.range ops.length).any fun i => a9Z ops listed i
def a6Q (ops : List Oper) (ms : List j2) : Nat → List Bool → Sch
 | 0, listed => if a5E ops listed then .bad else .done
 | n + 1, listed => match a8S ops ms listed (List.range ops.length) with
  | some i => .take i (a6Q ops ms n (listed.set i true))
  | none => if a5E ops listed then b6I ops ms listed (fun l => a6Q ops ms n l) (List.range ops.length) else .bad
def a1c (P : Program) (N : Nat) : Code → j3
 | .skip => .skip
 | .region _ ops draw =>
  match a0D P N ops.toList ops.toList with
  | some ms => if draw then (if ops.toList.all b5y && P.follows .mixedOrders then .draw ms (a6Q ops.toList ms ops.toList.length (List.replicate ops.toList.length false)) else .fail) else .ops ms
  | none => .fail
 | .seq a b => .seq (a1c P N a) (a1c P N b)
 | .cond c x y => match opd N c with | some c => .cond c (a1c P N x) (a1c P N y) | none => .fail
 | .block id c => .block id (a1c P N c)
 | .loop c => .loop (a1c P N c)
 | .exit id => .exit id
 | .ret => .ret
 | .scope c => a1c P N c
 | .label _ => .skip
 | c => .raw c
def a0l (P : Program) (N : Nat) : List ResultVar → Option (List a2f)
 | [] => some []
 | .tmp t :: rs => if t < N then i5 (a0l P N rs) fun r => some (.tmp t :: r) else none
 | .cell a t :: rs => if a < N then i5 (u7 P t) fun g => i5 (C2 P t) fun n => i5 (a0l P N rs) fun r => some (.cell a n g :: r) else none
end Go.Proofs.YtcgbhcgfdcfmaaaGreat.MX
