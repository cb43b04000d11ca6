import Derived.OrdersHeld
import Derived.Below
import Derived.KernelRfl
import Derived.Tactics
import Derived.Tactics2
namespace Go.Proofs.YtjagmebglhbdkaaGreat.MX
open Go Go.Proofs
set_option linter.unusedSimpArgs false
set_option linter.unusedVariables false
theorem l_a:type_of% @Nat.le_of_ble_eq_true:= @Nat.le_of_ble_eq_true
theorem l_b:type_of% @Array.size_setIfInBounds:= @Array.size_setIfInBounds
theorem l_c:type_of% @Array.size_push:= @Array.size_push
theorem l_d:type_of% @List.not_mem_nil:= @List.not_mem_nil
theorem l_e:type_of% @List.mem_cons:= @List.mem_cons
theorem l_f:type_of% @List.length_cons:= @List.length_cons
theorem l_g:type_of% @List.length_nil:= @List.length_nil
theorem l_h:type_of% @List.set_cons_zero:= @List.set_cons_zero
theorem l_i:type_of% @List.set_cons_succ:= @List.set_cons_succ
theorem l_j:type_of% @List.cons_append:= @List.cons_append
theorem l_k:type_of% @List.nil_append:= @List.nil_append
theorem l_l:type_of% @List.mem_cons_of_mem:= @List.mem_cons_of_mem
theorem l_m:type_of% @List.length_append:= @List.length_append
theorem l_n:type_of% @List.mem_cons_self:= @List.mem_cons_self
theorem l_o:type_of% @List.getElem?_cons_zero:= @List.getElem?_cons_zero
theorem l_p:type_of% @List.getElem?_cons_succ:= @List.getElem?_cons_succ
theorem l_q:type_of% @List.append_assoc:= @List.append_assoc
theorem l_r:type_of% @List.getElem?_eq_getElem:= @List.getElem?_eq_getElem
theorem l_s:type_of% @List.getD_eq_getElem?_getD:= @List.getD_eq_getElem?_getD
theorem l_t:type_of% @List.take_succ_eq_append_getElem:= @List.take_succ_eq_append_getElem
theorem l_u:type_of% @Int.eq_ofNat_of_zero_le:= @Int.eq_ofNat_of_zero_le
theorem l_v:type_of% @List.getElem_mem:= @List.getElem_mem
theorem l_w:type_of% @Option.isSome_none:= @Option.isSome_none
theorem l_x:type_of% @Option.isSome_some:= @Option.isSome_some
theorem l_y:type_of% @List.mem_append:= @List.mem_append
theorem l_z:type_of% @List.length_map:= @List.length_map
theorem U1:type_of% @List.mem_singleton:= @List.mem_singleton
theorem U9:type_of% @not_false_eq_true:= @not_false_eq_true
theorem c4e:type_of% @not_true_eq_false:= @not_true_eq_false
theorem x4:type_of% @List.length_take:= @List.length_take
theorem Y9:type_of% @List.getElem_map:= @List.getElem_map
theorem R7:type_of% @List.getElem_of_mem:= @List.getElem_of_mem
theorem a0H:type_of% @List.getElem?_map:= @List.getElem?_map
theorem G4:type_of% @List.length_replicate:= @List.length_replicate
theorem a0I:type_of% @List.mem_map_of_mem:= @List.mem_map_of_mem
theorem C9:type_of% @List.take_length:= @List.take_length
theorem T3:type_of% @List.length_set:= @List.length_set
theorem L7:type_of% @List.map_append:= @List.map_append
theorem D9:type_of% @List.append_nil:= @List.append_nil
theorem a2j:type_of% @List.take_zero:= @List.take_zero
theorem a4D:type_of% @List.drop_zero:= @List.drop_zero
theorem K0:type_of% @Int.toNat_natCast:= @Int.toNat_natCast
theorem a7v:type_of% @List.take_succ_cons:= @List.take_succ_cons
theorem G0:type_of% @List.take_append_drop:= @List.take_append_drop
theorem x9:type_of% @Nat.le_refl:= @Nat.le_refl
theorem X8:type_of% @List.drop_eq_getElem_cons:= @List.drop_eq_getElem_cons
theorem m9:type_of% @Nat.mul_one:= @Nat.mul_one
theorem M2:type_of% @List.length_drop:= @List.length_drop
theorem a2k:type_of% @Array.getD_eq_getD_getElem? := @Array.getD_eq_getD_getElem?
theorem K1:type_of% @List.sum_cons:= @List.sum_cons
theorem G7:type_of% @List.map_cons:= @List.map_cons
theorem a1n:type_of% @Nat.mul_le_mul_right:= @Nat.mul_le_mul_right
theorem X9:type_of% @List.flatMap_cons:= @List.flatMap_cons
theorem Y0:type_of% @List.mem_append_left:= @List.mem_append_left
theorem a2E:type_of% @List.take_of_length_le:= @List.take_of_length_le
theorem a1O:type_of% @List.mem_of_mem_take:= @List.mem_of_mem_take
theorem a1o:type_of% @List.pairwise_append:= @List.pairwise_append
theorem a1p:type_of% @List.flatMap_append:= @List.flatMap_append
theorem a7w:type_of% @List.eq_nil_of_length_eq_zero:= @List.eq_nil_of_length_eq_zero
theorem a2l:type_of% @List.mem_append_right:= @List.mem_append_right
theorem Y1:type_of% @List.getElem?_eq_none:= @List.getElem?_eq_none
theorem R8:type_of% @Nat.add_mul:= @Nat.add_mul
theorem a8w:type_of% @List.findIdx?_eq_some_iff_getElem:= @List.findIdx?_eq_some_iff_getElem
theorem a2m:type_of% @List.sum_append:= @List.sum_append
theorem a8x:type_of% @List.getElem?_append_right:= @List.getElem?_append_right
theorem H8:type_of% @Nat.add_zero:= @Nat.add_zero
theorem a6l:type_of% @List.set_append_right:= @List.set_append_right
theorem a5u:type_of% @Array.getElem?_toList:= @Array.getElem?_toList
theorem a1P:type_of% @Bool.and_eq_true:= @Bool.and_eq_true
theorem a0w:type_of% @Nat.mul_comm:= @Nat.mul_comm
theorem Z0:type_of% @Nat.le_trans:= @Nat.le_trans
theorem a4E:type_of% @Nat.add_sub_cancel:= @Nat.add_sub_cancel
abbrev c9:=Array Obj
abbrev Env:=Nat→Value
def upd(ρ:Env)(d:Nat)(v:Value):Env:=fun t=>if t=d then v else ρ t
def N5(ρ:Env)(d:Option Nat)(v:Value):Env:=match d with|some d=>upd ρ d v|none=>ρ
theorem b7D(ρ:Env)(d:Nat)(v:Value):N5 ρ (some d) v=upd ρ d v:=rfl
theorem b7C(ρ:Env)(v:Value):N5 ρ none v=ρ:=rfl
inductive Opd where
 |t (n:Nat)
 |c (v:Value)
def ev(ρ:Env):Opd→Value
 | .t n=>ρ n
 | .c v=>v
def blk(h:c9)(b:Nat):Option (List Value×Nat×(Nat×Nat)):=
 match h[b]? with
 |some (.cells c e f)=>some (c.toList,e,f)
 |_=>none
def rdN(h:c9)(b off n:Nat):Option (List Value):=
 match blk h b with
 |some (c,_,_)=>if off+n≤c.length then some ((c.drop off).take n)else none
 |none=>none
def rdA(h:c9)(v:Value)(n:Nat):Option (List Value):=
 match v with
 | .pointer (some ⟨b,off,none⟩)=>rdN h b off n
 |_=>none
def rd1(h:c9)(v:Value):Option Value:=
 match rdA h v 1 with
 |some [x]=>some x
 |_=>none
def v5(c:List Value)(off:Nat):List Value→List Value
 | []=>c
 |v::vs=>v5 (c.set off v) (off+1) vs
def cellsOf(v:Value):List Value:=v.cells.toList
def pC:List Value→Bool
 | []=>true
 |v::vs=>v.oneCell'&&pC vs
def wrW(h:c9)(v:Value)(cs:List Value)(K:c9→Prop):Prop:=
 match v with
 | .pointer (some ⟨b,off,none⟩)=>
  match blk h b with
  |some (c,e,f)=>(off+cs.length≤c.length∧(f.2≤f.1∨off+cs.length≤f.1∨f.2≤off)∧pC cs=true)∧K (h.setIfInBounds b (.cells (v5 c off cs).toArray e f))
  |none=>False
 |_=>False
def N7{α:Type}(x:Option α)(K:α→Prop):Prop:=match x with|some v=>K v|none=>False
def L4(op:BinOp)(k:IntKind)(a b:Int):Option Value:=
 match op with
 | .add=>some (.int k (k.wrap (a+b)))
 | .sub=>some (.int k (k.wrap (a-b)))
 | .mul=>some (.int k (k.wrap (a*b)))
 | .quo=>if b=0 then none else some (.int k (k.wrap (a.tdiv b)))
 | .rem=>if b=0 then none else some (.int k (a.tmod b))
 | .and=>some (.int k (k.wrap (BitVec.ofInt k.bits a&&&BitVec.ofInt k.bits b).toNat))
 | .or=>some (.int k (k.wrap (BitVec.ofInt k.bits a|||BitVec.ofInt k.bits b).toNat))
 | .xor=>some (.int k (k.wrap (BitVec.ofInt k.bits a^^^BitVec.ofInt k.bits b).toNat))
 | .andNot=>some (.int k (k.wrap (BitVec.ofInt k.bits a&&& ~~~BitVec.ofInt k.bits b).toNat))
 | .eql=>some (.bool (a==b))
 | .neq=>some (.bool (a !=b))
 | .lss=>some (.bool (a<b))
 | .leq=>some (.bool (a≤b))
 | .gtr=>some (.bool (a>b))
 | .geq=>some (.bool (a≥b))
 |_=>none
def C0(op:BinOp)(x y:Value):Option Value:=
 match x,y with
 | .int k a,.int k' b=>
  match op with
  | .shl=>if b<0 then none else some (.int k (k.wrap (a*2^(min b.toNat k.bits))))
  | .shr=>if b<0 then none else some (.int k (a.fdiv (2^(min b.toNat k.bits))))
  |_=>if k=k' then L4 op k a b else none
 | .string a,.string b=>
  match op with
  | .eql=>some (.bool (a.toList==b.toList))
  | .neq=>some (.bool (!(a.toList==b.toList)))
  |_=>none
 |_,_=>none
inductive EK where
 |b|p|s|m|f
def eqV(k:EK)(x y:Value):Option Bool:=
 match k,x,y with
 | .b,.bool a,.bool b=>some (a==b)
 | .p,.pointer none,.pointer b=>some b.isNone
 | .p,.pointer (some _),.pointer none=>some false
 | .s,.slice none _ _,.slice b _ _=>some b.isNone
 | .s,.slice (some _) _ _,.slice none _ _=>some false
 | .m,.map none,.map b=>some b.isNone
 | .m,.map (some _),.map none=>some false
 | .f,.nilFunc,.nilFunc=>some true
 | .f,.nilFunc,.func _ _ _=>some false
 | .f,.func _ _ _,.nilFunc=>some false
 |_,_,_=>none
def unV(op:UnOp)(x:Value):Option Value:=
 match op,x with
 | .neg,.int k n=>some (.int k (k.wrap (0-n)))
 | .xor,.int k n=>L4 .xor k (if k.signed then-1 else k.max) n
 | .not,.bool b=>some (.bool !b)
 |_,_=>none
def a2X(x:Value)(n:Nat):Option Value:=
 match x with
 | .pointer (some a)=>some (.pointer (some (a.add n)))
 |_=>none
def a9f(sz:Nat)(x i:Value):Option Value:=
 match x,i with
 | .slice (some a) len _,.int _ i=>if 0≤i∧i<len then some (.pointer (some (a.add (i.toNat*sz))))else none
 |_,_=>none
def a9e(len sz:Nat)(x i:Value):Option Value:=
 match x,i with
 | .pointer (some a),.int _ i=>if 0≤i∧i<len then some (.pointer (some (a.add (i.toNat*sz))))else none
 |_,_=>none
def bnd(x:Option Value)(d:Nat):Option Int:=
 match x with
 |none=>some d
 |some (.int _ i)=>some i
 |_=>none
def i7{α β:Type}(x:Option α)(K:α→Option β):Option β:=match x with|some v=>K v|none=>none
theorem b3d{α β:Type}(v:α)(K:α→Option β):i7 (some v) K=K v:=rfl
def a1F(a:Option Addr)(sz:Nat)(l h m cap:Int):Option Value:=
 if 0≤l∧l≤h∧h≤m∧m≤cap then
  some (.slice (if m=l then a else a.map (·.add (l.toNat*sz))) (h-l).toNat (m-l).toNat)else none
def a4W(sz:Nat)(x:Value)(lo hi mx:Option Value):Option Value:=
 match x with
 | .slice a len cap=>i7 (bnd lo 0) fun l=>i7 (bnd hi len) fun h=>i7 (bnd mx cap) fun m=>a1F a sz l h m cap
 |_=>none
def a1T(n sz:Nat)(x:Value)(lo hi mx:Option Value):Option Value:=
 match x with
 | .pointer (some a)=>i7 (bnd lo 0) fun l=>i7 (bnd hi n) fun h=>i7 (bnd mx n) fun m=>a1F (some a) sz l h m n
 |_=>none
def a6E(x:Value)(lo hi:Option Value):Option Value:=
 match x with
 | .string s=>i7 (bnd lo 0) fun l=>i7 (bnd hi s.size) fun h=>
   if 0≤l∧l≤h∧h≤s.size then some (.string (s.extract l.toNat h.toNat))else none
 |_=>none
def b0o(str:Bool)(x:Value):Option Value:=
 match str,x with
 |true,.string s=>some (.int .i64 s.size)
 |false,.slice _ n _=>some (.int .i64 n)
 |_,_=>none
def b8s(x:Value):Option Value:=
 match x with
 | .slice _ _ c=>some (.int .i64 c)
 |_=>none
def b9x:Value→Value→Option Value
 | .int k x,.int _ y=>some (.int k (if y<x then y else x))
 |_,_=>none
def b9w:Value→Value→Option Value
 | .int k x,.int _ y=>some (.int k (if y>x then y else x))
 |_,_=>none
def a3x(f:Value→Value→Option Value):Value→List Value→Option Value
 |x,[]=>some x
 |x,y::ys=>i7 (f x y) fun z=>a3x f z ys
def a2y(off n:Nat)(agg:Bool)(x:Value):Option Value:=
 match x with
 | .agg cs=>if agg then some (.agg (cs.extract off (off+n)))else cs[off]?
 |_=>none
def a5W(len sz:Nat)(agg:Bool)(x i:Value):Option Value:=
 match x,i with
 | .agg cs,.int _ i=>if 0≤i∧i<len then(if agg then some (.agg (cs.extract (i.toNat*sz) (i.toNat*sz+sz)))else cs[i.toNat*sz]?)else none
 |_,_=>none
def a7r(x i:Value):Option Value:=
 match x,i with
 | .string s,.int _ i=>if 0≤i∧i<s.size then some (.int .u8 ((s[i.toNat]?.getD 0).toNat))else none
 |_,_=>none
def a8X(x:Value)(i:Nat):Option Value:=
 match x with
 | .tuple vs=>vs[i]?
 |_=>none
def b2h(c a b:Value):Option Value:=
 match c with
 | .bool c=>some (if c then a else b)
 |_=>none
def b9I(x:Value):Option Value:=
 match x with
 | .pointer (some a)=>some (.pointer (some a))
 | .func (.func f) a b=>some (.func (.func f) a b)
 | .slice a n c=>some (.slice a n c)
 |_=>none
def b1t(k:IntKind)(x:Value):Option Value:=
 match x with
 | .int _ n=>some (.int k (k.wrap n))
 |_=>none
def a0s(zero:List Value):List (Nat×Nat×Value)→Option (List Value)
 | []=>some zero
 |(off,size,v)::rest=>if(cellsOf v).length=size∧off+size≤zero.length then a0s (v5 zero off (cellsOf v)) rest else none
inductive CK where
 |i|b|s
def a0Y:CK→Value→Value→Option Bool
 | .i,.int k a,.int k' b=>if k=k' then some (a==b)else none
 | .b,.bool a,.bool b=>some (a==b)
 | .s,.string a,.string b=>some (a.toList==b.toList)
 |_,_,_=>none
def eqK:List CK→List Value→List Value→Option Bool
 | [],[],[]=>some true
 |k::ks,x::xs,y::ys=>i7 (a0Y k x y) fun b=>i7 (eqK ks xs ys) fun c=>some (b&&c)
 |_,_,_=>none
def b6D(ks:List CK)(x y:Value):Option Bool:=
 match x,y with
 | .agg xs,.agg ys=>eqK ks xs.toList ys.toList
 |_,_=>none
inductive j7 where
 |mov (x:Opd)
 |pick (c a b:Opd)
 |build (zero:List Value) (parts:List (Nat×Nat×Opd))
 |nilchk (x:Opd)
 |bin (op:BinOp) (x y:Opd)
 |eq (k:EK) (neg:Bool) (x y:Opd)
 |eqA (ks:List CK) (neg:Bool) (x y:Opd)
 |un (op:UnOp) (x:Opd)
 |conv (k:IntKind) (x:Opd)
 |addOff (x:Opd) (n:Nat)
 |idxS (sz:Nat) (x i:Opd)
 |idxA (len sz:Nat) (x i:Opd)
 |cutS (sz:Nat) (x:Opd) (lo hi mx:Option Opd)
 |cutA (n sz:Nat) (x:Opd) (lo hi mx:Option Opd)
 |cutT (x:Opd) (lo hi:Option Opd)
 |len (str:Bool) (x:Opd)
 |lenA (n:Nat)
 |cap (x:Opd)
 |min (x:Opd) (ys:List Opd)
 |max (x:Opd) (ys:List Opd)
 |field (off n:Nat) (agg:Bool) (x:Opd)
 |idxG (len sz:Nat) (agg:Bool) (x i:Opd)
 |idxT (x i:Opd)
 |extr (x:Opd) (i:Nat)
 |func (f:Fn) (first captured:List Opd)
def j7.val(ρ:Env):j7→Option Value
 | .mov x=>some (ev ρ x)
 | .pick c a b=>b2h (ev ρ c) (ev ρ a) (ev ρ b)
 | .build zero parts=>i7 (a0s zero (parts.map fun p=>(p.1,p.2.1,ev ρ p.2.2))) fun cs=>some (.agg cs.toArray)
 | .nilchk x=>b9I (ev ρ x)
 | .bin op x y=>C0 op (ev ρ x) (ev ρ y)
 | .eq k neg x y=>i7 (eqV k (ev ρ x) (ev ρ y)) fun b=>some (.bool (if neg then !b else b))
 | .eqA ks neg x y=>i7 (b6D ks (ev ρ x) (ev ρ y)) fun b=>some (.bool (if neg then !b else b))
 | .un op x=>unV op (ev ρ x)
 | .conv k x=>b1t k (ev ρ x)
 | .addOff x n=>a2X (ev ρ x) n
 | .idxS sz x i=>a9f sz (ev ρ x) (ev ρ i)
 | .idxA ln sz x i=>a9e ln sz (ev ρ x) (ev ρ i)
 | .cutS sz x lo hi mx=>a4W sz (ev ρ x) (lo.map (ev ρ)) (hi.map (ev ρ)) (mx.map (ev ρ))
 | .cutA n sz x lo hi mx=>a1T n sz (ev ρ x) (lo.map (ev ρ)) (hi.map (ev ρ)) (mx.map (ev ρ))
 | .cutT x lo hi=>a6E (ev ρ x) (lo.map (ev ρ)) (hi.map (ev ρ))
 | .len str x=>b0o str (ev ρ x)
 | .lenA n=>some (.int .i64 n)
 | .cap x=>b8s (ev ρ x)
 | .min x ys=>a3x b9x (ev ρ x) (ys.map (ev ρ))
 | .max x ys=>a3x b9w (ev ρ x) (ys.map (ev ρ))
 | .field off n agg x=>a2y off n agg (ev ρ x)
 | .idxG ln sz agg x i=>a5W ln sz agg (ev ρ x) (ev ρ i)
 | .idxT x i=>a7r (ev ρ x) (ev ρ i)
 | .extr x i=>a8X (ev ρ x) i
 | .func f first captured=>some (.func f (first.map (ev ρ)).toArray (captured.map (ev ρ)).toArray)
inductive a2o where
 |load1 (a:Opd)
 |loadN (n:Nat) (a:Opd)
def a2o.val(ρ:Env)(h:c9):a2o→Option Value
 | .load1 a=>rd1 h (ev ρ a)
 | .loadN n a=>i7 (rdA h (ev ρ a) n) fun cs=>some (.agg cs.toArray)
def x7(h:c9)(sz n:Nat)(x:Value):Option (List Value):=
 match x with
 | .slice none _ _=>some []
 | .slice (some a) _ _=>if n*sz=0 then some []else rdA h (.pointer (some a)) (n*sz)
 | .string s=>some ((s.data.toList.take n).map fun b=> .int .u8 b.toNat)
 |_=>none
def W8(x:Value):Option Nat:=
 match x with
 | .slice _ n _=>some n
 | .string s=>some s.size
 |_=>none
def n8(zero:List Value):Nat→List Value
 |0=> []
 |n+1=>zero++n8 zero n
def M4(w w':World):Prop:=w'.os=w.os∧w'.tape=w.tape∧w'.output=w.output
def d8(P:Program)(f:FuncId)(args:List Value)(h:c9)(R:Value→c9→Prop):Prop:=
 ∀w:World,w.heap=h→Calls P f args.toArray w fun e w'=>∃v,e= .returned v∧M4 w w'∧R v w'.heap
def a3T(P:Program)(f:FuncId):Bool:=
 match P.funcs[f]? with
 | some fn => fn.body.isSome && !(fn.name == "runtime.NumGoroutine")
 |none=>false
inductive Eff where
 |alloc (T:Nat) (zero:List Value)
 |box (T:Nat) (x:Opd)
 |bslice (T len:Nat) (zero:List Value) (parts:List (Nat×Nat×Opd))
 |store (n:Nat) (a x:Opd)
 |append (T sz bytes:Nat) (zero:List Value) (x y:Opd)
 |copy (sz:Nat) (x y:Opd)
 |clear (sz:Nat) (zero:List Value) (x:Opd)
 |s2b (T:Nat) (x:Opd)
 |mkslice (T sz bytes:Nat) (zero:List Value) (len cap:Opd)
 |call (f:FuncId) (args:List Opd)
 |callv (x:Opd) (args:List Opd)
 |any (o:Oper)
def a9Y(T sz bytes:Nat)(zero:List Value)(x y:Value)(h:c9)(K:Value→c9→Prop):Prop:=
 match x with
 | .slice base n c=>
  N7 (W8 y) fun m=>N7 (x7 h sz m y) fun new=>
   if n+m≤c then
    (match base with
     |some a=>if new=[]then K (.slice base (n+m) c) h else wrW h (.pointer (some (a.add (n*sz)))) new fun h'=>K (.slice base (n+m) c) h'
     |none=>K (.slice base (n+m) c) h)
   else N7 (x7 h sz n x) fun old=>
    (n+m)*bytes≤140737488355328∧n+m≤9223372036854775807∧
    ∀cap,n+m≤cap→cap<9223372036854775808→K (.slice (some ⟨h.size,0,none⟩) (n+m) cap) (h.push (.cells (old++new++n8 zero (cap-(n+m))).toArray T (0,0)))
 |_=>False
def a8R(sz:Nat)(x y:Value)(h:c9)(K:Value→c9→Prop):Prop:=
 match x with
 | .slice base n _=>
  N7 (W8 y) fun m=>N7 (x7 h sz (min m n) y) fun new=>
   match base with
   |some a=>if new=[]then K (.int .i64 (min m n:Nat)) h else wrW h (.pointer (some a)) new fun h'=>K (.int .i64 (min m n:Nat)) h'
   |none=>K (.int .i64 (min m n:Nat)) h
 |_=>False
def a5i(zero:List Value)(x:Value)(h:c9)(K:Value→c9→Prop):Prop:=
 match x with
 | .slice base n _=>
  match base with
  |some a=>if n=0 then K (.tuple #[]) h else wrW h (.pointer (some a)) (n8 zero n) fun h'=>K (.tuple #[]) h'
  |none=>K (.tuple #[]) h
 |_=>False
def c0u(T:Nat)(x:Value)(h:c9)(K:Value→c9→Prop):Prop:=
 match x with
 | .string s=>s.size≤9223372036854775807∧∀cap,s.size≤cap→cap<9223372036854775808→K (.slice (some ⟨h.size,0,none⟩) s.size cap) (h.push (.cells ((s.data.toList.map fun b:UInt8=>Value.int .u8 b.toNat)++List.replicate (cap-s.size) (Value.int .u8 0)).toArray T (cap,cap+1)))
 |_=>False
def mkW(T bytes:Nat)(zero:List Value)(l c:Value)(h:c9)(K:Value→c9→Prop):Prop:=
 match l,c with
 | .int .i64 l,.int .i64 c=>(0≤l∧l≤c∧c<9223372036854775808∧c*bytes≤281474976710656)∧
   K (.slice (some ⟨h.size,0,none⟩) l.toNat c.toNat) (h.push (.cells (n8 zero c.toNat).toArray T (0,0)))
 |_,_=>False
def a3J(P:Program)(x:Value)(args:List Value)(h:c9)(K:Value→c9→Prop):Prop:=
 match x with
 | .func (.func f) first captured=>a3T P f=true∧d8 P f (first.toList++args++captured.toList) h K
 |_=>False
def Eff.wp(P:Program)(ρ:Env)(h:c9)(K:Value→c9→Prop):Eff→Prop
 | .alloc T zero=>K (.pointer (some ⟨h.size,0,none⟩)) (h.push (.cells zero.toArray T (0,0)))
 | .box T x=>K (.pointer (some ⟨h.size,0,none⟩)) (h.push (.cells (cellsOf (ev ρ x)).toArray T (0,0)))
 | .bslice T len zero parts=>N7 (a0s (n8 zero len) (parts.map fun p=>(p.1,p.2.1,ev ρ p.2.2))) fun cs=>
   K (.slice (some ⟨h.size,0,none⟩) len len) (h.push (.cells cs.toArray T (0,0)))
 | .store n a x=>(cellsOf (ev ρ x)).length=n∧wrW h (ev ρ a) (cellsOf (ev ρ x)) fun h'=>K undef h'
 | .append T sz bytes zero x y=>a9Y T sz bytes zero (ev ρ x) (ev ρ y) h K
 | .copy sz x y=>a8R sz (ev ρ x) (ev ρ y) h K
 | .clear _ zero x=>a5i zero (ev ρ x) h K
 | .s2b T x=>c0u T (ev ρ x) h K
 | .mkslice T _ bytes zero l c=>mkW T bytes zero (ev ρ l) (ev ρ c) h K
 | .call f args=>d8 P f (args.map (ev ρ)) h K
 | .callv x args=>a3J P (ev ρ x) (args.map (ev ρ)) h K
 | .any o=>∀(w:World) (a:Act),w.heap=h→(∀x∈o.op.operands,a.eval x=(match x with| .tmp t=>ρ t| .const v=>v| .global g=> .pointer (some ⟨g,0,none⟩)| .func f=> .func (.func f) #[] #[]))→
   ∃v w',((execOp a.eval o).run P w= .ok (.value v) w'∨((execOp a.eval o).run P w= .ok .skip w'∧v=undef))∧M4 w w'∧K v w'.heap
inductive MOp where
 |p (x:j7)
 |r (x:a2o)
 |e (x:Eff)
def MOp.wp(P:Program)(ρ:Env)(h:c9)(K:Value→c9→Prop):MOp→Prop
 | .p x=>N7 (x.val ρ) fun v=>K v h
 | .r x=>N7 (x.val ρ h) fun v=>K v h
 | .e x=>x.wp P ρ h K
structure j1 where
 dst:Option Nat
 op:MOp
 guard:Option (Nat×Bool)
def P5(ρ:Env):Option (Nat×Bool)→Bool
 |none=>true
 |some (s,want)=>match ρ s with| .bool b=>b==want|_=>false
def M6(b:Bool)(X Y:Prop):Prop:=if b=true then X else Y
def O2(P:Program):List j1→(Env→c9→Prop)→Env→c9→Prop
 | [],K,ρ,h=>K ρ h
 |o::os,K,ρ,h=>M6 (P5 ρ o.guard) (o.op.wp P ρ h fun v h'=>O2 P os K (N5 ρ o.dst v) h') (O2 P os K (N5 ρ o.dst undef) h)
inductive Sch where
 |done
 |take (i:Nat) (k:Sch)
 |alt (i:Nat) (ns:Bool) (k:Sch) (more:Sch)
 |no
 |bad
def I5(P:Program)(S:c9→Prop)(ops:List j1)(K:Env→c9→Prop):Sch→Env→c9→Prop
 | .done,ρ,h=>K ρ h
 | .take i k,ρ,h=>match ops[i]? with
  |some o=>M6 (P5 ρ o.guard)
    (match o.op with
     | .p x=>N7 (x.val ρ) fun v=>I5 P S ops K k (N5 ρ o.dst v) h
     | .r x=>∃v,(∀h',S h'→x.val ρ h'=some v)∧I5 P S ops K k (N5 ρ o.dst v) h
     | .e _=>False)
    (I5 P S ops K k (N5 ρ o.dst undef) h)
  |none=>False
 | .alt i ns k more,ρ,h=>(match ops[i]? with
  |some o=>M6 (P5 ρ o.guard) (o.op.wp P ρ h fun v h'=>(ns=true→S h')∧I5 P S ops K k (N5 ρ o.dst v) h') (I5 P S ops K k (N5 ρ o.dst undef) h)
  |none=>False)∧I5 P S ops K more ρ h
 | .no,_,_=>True
 | .bad,_,_=>False
inductive j6 where
 |skip
 |fail
 |ops (l:List j1)
 |draw (l:List j1) (s:Sch)
 |seq (a b:j6)
 |cond (c:Opd) (x y:j6)
 |block (id:Nat) (c:j6)
 |loop (c:j6)
 |exit (id:Nat)
 |ret
 |raw (c:Code)
inductive D6 where
 |normal
 |exit (id:Nat)
 |ret
def V0(k:Env→c9→Prop)(Q:D6→Env→c9→Prop):D6→Env→c9→Prop
 | .normal,ρ,h=>k ρ h
 |e,ρ,h=>Q e ρ h
def a2N(id:Nat)(Q:D6→Env→c9→Prop):D6→Env→c9→Prop
 | .exit id',ρ,h=>if id'=id then Q .normal ρ h else Q (.exit id') ρ h
 |e,ρ,h=>Q e ρ h
def a0r(v:Value)(X Y:Prop):Prop:=match v with| .bool b=>if b=true then X else Y|_=>False
def mwp(P:Program):j6→(D6→Env→c9→Prop)→Env→c9→Prop
 | .skip,Q,ρ,h=>Q .normal ρ h
 | .fail,_,_,_=>False
 | .raw _,_,_,_=>False
 | .ops l,Q,ρ,h=>O2 P l (fun ρ h=>Q .normal ρ h) ρ h
 | .draw l s,Q,ρ,h=>∃S:c9→Prop,S h∧I5 P S l (fun ρ h=>Q .normal ρ h) s ρ h
 | .seq a b,Q,ρ,h=>mwp P a (V0 (mwp P b Q) Q) ρ h
 | .cond c x y,Q,ρ,h=>a0r (ev ρ c) (mwp P x Q ρ h) (mwp P y Q ρ h)
 | .block id c,Q,ρ,h=>mwp P c (a2N id Q) ρ h
 | .loop c,Q,ρ,h=>∃(I:Env→c9→Prop) (μ:Env→c9→Nat),I ρ h∧∀ρ h,I ρ h→mwp P c (V0 (fun ρ' h'=>I ρ' h'∧μ ρ' h'<μ ρ h) Q) ρ h
 | .exit id,Q,ρ,h=>Q (.exit id) ρ h
 | .ret,Q,ρ,h=>Q .ret ρ h
inductive a3E where
 |tmp (t:Nat)
 |cell (t n:Nat) (agg:Bool)
def b7o(ρ:Env)(h:c9):a3E→Option Value
 | .tmp t=>some (ρ t)
 | .cell t n agg=>if agg then i7 (rdA h (ρ t) n) fun cs=>some (.agg cs.toArray)else rd1 h (ρ t)
def a2f(ρ:Env)(h:c9):List a3E→Option (List Value)
 | []=>some []
 |r::rs=>i7 (b7o ρ h r) fun v=>i7 (a2f ρ h rs) fun vs=>some (v::vs)
def a2K:List Value→Value
 | [v]=>v
 |vs=> .tuple vs.toArray
def c0o(rs:List a3E)(R:Value→c9→Prop):D6→Env→c9→Prop
 | .normal,ρ,h=>N7 (a2f ρ h rs) fun vs=>R (a2K vs) h
 | .ret,ρ,h=>N7 (a2f ρ h rs) fun vs=>R (a2K vs) h
 | .exit _,_,_=>False
def a0p(args:List Value):Env:=fun t=>args.getD t undef
def opd(N:Nat):Operand→Option Opd
 | .tmp t=>if t<N then some (.t t)else none
 | .const v=>some (.c v)
 | .global g=>some (.c (.pointer (some ⟨g,0,none⟩)))
 | .func f=>some (.c (.func (.func f) #[] #[]))
def b2c(N:Nat):List Operand→Option (List Opd)
 | []=>some []
 |x::xs=>i7 (opd N x) fun y=>i7 (b2c N xs) fun ys=>some (y::ys)
def b9U(N:Nat):Option Operand→Option (Option Opd)
 |none=>some none
 |some x=>i7 (opd N x) fun y=>some (some y)
def G6(P:Program)(t:TypeId):Option Nat:=match P.info? t with|some i=>some i.size|none=>none
def T6(P:Program)(t:TypeId):Option Nat:=match P.info? t with|some i=>some i.bytes|none=>none
def Y7(P:Program)(t:TypeId):Option (List Value):=
 match P.info? t with
 |some i=>match i.zero with|some v=>some (cellsOf v)|none=>none
 |none=>none
def x8(P:Program)(t:TypeId):Option Bool:=
 match P.underlying t with
 |some (.struct _)=>some true
 |some (.array _ _)=>some true
 |some _=>some false
 |none=>none
def a3W(P:Program)(fs:List Field)(i:Nat):Option (Nat×Nat):=
 match fs[i]? with
 |some f=>i7 (G6 P f.type) fun s=>some (f.offset,s)
 |none=>none
def a3f(P:Program)(rec:TypeId→Option (List CK)):List Field→Nat→Option (List CK)
 | [],_=>some []
 | f :: fs, off => if f.offset = off ∧ (f.name == "_") = false then i7 (rec f.type) fun k => i7 (G6 P f.type) fun n => if k.length = n ∧ 0 < n then i7 (a3f P rec fs (off + n)) fun ks => some (k ++ ks) else none else none
def a4p(k:List CK):Nat→List CK
 |0=> []
 |n+1=>k++a4p k n
def b9o(P:Program)(t:TypeId):Bool:=match P.info? t with
 |some i=>(match i.desc with| .int _=>true| .bool=>true| .string=>true|_=>false)
 |none=>false
def b4P(P:Program):List Field→List Field→Bool
 | [],[]=>false
 |f::fs,g::gs=>(!(f.type==g.type)&&b9o P f.type)||b4P P fs gs
 |_,_=>true
def c3V(P:Program)(t u:TypeId):Bool:=match P.info? t,P.info? u with
 |some i,some j=>(match i.desc,j.desc with
  | .struct fs,.struct gs=> !(t==u)&&b4P P fs.toList gs.toList
  |_,.struct _=> !(t==u)
  |_,_=>false)
 |_,_=>false
def b9f(P:Program)(t:TypeId):Bool:=if P.cutTypes.toList.all (fun c=>c3V P (P.underlyingId c.2) (P.underlyingId t))then false else P.stoodInHeld t
def V8(P:Program):Nat→TypeId→Option (List CK)
 |0,_=>none
 |d+1,t=>match P.underlying t with
  |some (.int _)=>some [.i]
  |some .bool=>some [.b]
  |some .string=>some [.s]
  |some (.struct fs)=>if b9f P t then none else a3f P (V8 P d) fs.toList 0
  |some (.array n e)=>i7 (V8 P d e) fun k=>i7 (G6 P e) fun m=>if k.length=m∧0<m then some (a4p k n)else none
  |_=>none
def a1Q(N:Nat)(place:Nat→Option (Nat×Nat)):List (Nat×Operand)→Option (List (Nat×Nat×Opd))
 | []=>some []
 |(i,x)::rest=>i7 (place i) fun p=>i7 (opd N x) fun y=>i7 (a1Q N place rest) fun r=>some ((p.1,p.2,y)::r)
def a6P(P:Program):List Field→Bool
 | []=>true
 |f::fs=>(G6 P f.type).isSome&&a6P P fs
def a2t(P:Program)(N:Nat)(c:Call):Option MOp:=
 match c.callee with
 | .builtin b=>
  i7 (b2c N c.args.toList) fun xs=>
  match b,xs with
  | .len,[x]=>i7 c.argTypes[0]? fun t=>match P.underlying t with
   |some .string=>some (.p (.len true x))
   |some (.slice _)=>some (.p (.len false x))
   |some (.array n _)=>some (.p (.lenA n))
   |some (.pointer a)=>match P.underlying a with|some (.array n _)=>some (.p (.lenA n))|_=>none
   |_=>none
  | .cap,[x]=>i7 c.argTypes[0]? fun t=>match P.underlying t with
   |some (.slice _)=>some (.p (.cap x))
   |_=>none
  | .min,x::ys=>some (.p (.min x ys))
  | .max,x::ys=>some (.p (.max x ys))
  | .append,[x,y]=>i7 c.argTypes[0]? fun t=>i7 c.argTypes[1]? fun u=>match P.underlying t,P.underlying u with
   |some (.slice e),some (.slice _)=>i7 (G6 P e) fun sz=>i7 (T6 P e) fun by_=>i7 (Y7 P e) fun z=>if z.length=sz∧0<sz∧0<by_ then some (.e (.append e sz by_ z x y))else none
   |some (.slice e),some .string=>i7 (G6 P e) fun sz=>i7 (T6 P e) fun by_=>i7 (Y7 P e) fun z=>if z.length=sz∧0<sz∧0<by_ then some (.e (.append e sz by_ z x y))else none
   |_,_=>none
  | .copy,[x,y]=>i7 c.argTypes[0]? fun t=>match P.underlying t with
   |some (.slice e)=>i7 (G6 P e) fun sz=>if 0<sz then some (.e (.copy sz x y))else none
   |_=>none
  | .clear,[x]=>i7 c.argTypes[0]? fun t=>match P.underlying t with
   |some (.slice e)=>i7 (G6 P e) fun sz=>i7 (Y7 P e) fun z=>if z.length=sz∧0<sz then some (.e (.clear sz z x))else none
   |_=>none
  |_,_=>none
 | .value f=>i7 (opd N f) fun y=>i7 (b2c N c.args.toList) fun xs=>
  match y with
  | .c (.func (.func f) a b)=>if a.isEmpty&&b.isEmpty&&a3T P f then some (.e (.call f xs))else none
  | .t n=>some (.e (.callv (.t n) xs))
  |_=>none
 |_=>none
def b9S(N:Nat):Operand→Bool
 | .tmp t=>t<N
 |_=>true
def a6S(N:Nat)(o:Oper):Option MOp:=
 match o.op with
 | .select _ _=>none
 | .call _=>none
 |op=>if op.operands.toList.all (b9S N)then some (.e (.any o))else none
def a5j(P:Program)(N:Nat)(o:Oper):Option MOp:=
 match o.op with
 | .move x=>i7 (opd N x) fun x=>some (.p (.mov x))
 | .assign x=>i7 (opd N x) fun x=>some (.p (.mov x))
 | .pick c a b=>i7 (opd N c) fun c=>i7 (opd N a) fun a=>i7 (opd N b) fun b=>some (.p (.pick c a b))
 | .alloc e=>i7 (Y7 P e) fun z=>some (.e (.alloc e z))
 | .box e x=>i7 (opd N x) fun x=>some (.e (.box e x))
 | .build t parts=>i7 (Y7 P t) fun z=>match P.underlying t with
  |some (.struct fs)=>if a6P P fs.toList then i7 (a1Q N (a3W P fs.toList) parts.toList) fun ps=>some (.p (.build z ps))else none
  |some (.array _ e)=>i7 (G6 P e) fun sz=>i7 (a1Q N (fun i=>some (i*sz,sz)) parts.toList) fun ps=>some (.p (.build z ps))
  |_=>none
 | .buildSlice t len parts=>match P.underlying t with
  |some (.slice e)=>i7 (G6 P e) fun sz=>i7 (Y7 P e) fun z=>if z.length=sz∧0<sz∧len*sz≤16777216 then
    i7 (a1Q N (fun i=>some (i*sz,sz)) parts.toList) fun ps=>some (.e (.bslice e len z ps))else none
  |_=>none
 | .load t a=>i7 (opd N a) fun a=>i7 (x8 P t) fun g=>if g then i7 (G6 P t) fun n=>some (.r (.loadN n a))else some (.r (.load1 a))
 | .store t a x=>i7 (opd N a) fun a=>i7 (opd N x) fun x=>i7 (G6 P t) fun n=>some (.e (.store n a x))
 | .nilCheck x=>i7 (opd N x) fun x=>some (.p (.nilchk x))
 | .binOp op t x y _=>i7 (opd N x) fun x'=>i7 (opd N y) fun y'=>match P.underlying t with
  |some (.int _)=>some (.p (.bin op x' y'))
  |some .string=>some (.p (.bin op x' y'))
  |some .bool=>(match op with| .eql=>some (.p (.eq .b false x' y'))| .neq=>some (.p (.eq .b true x' y'))|_=>none)
  |some (.pointer _)=>(match op with| .eql=>some (.p (.eq .p false x' y'))| .neq=>some (.p (.eq .p true x' y'))|_=>none)
  |some (.slice _)=>(match op with| .eql=>some (.p (.eq .s false x' y'))| .neq=>some (.p (.eq .s true x' y'))|_=>none)
  |some (.map _ _)=>(match op with| .eql=>some (.p (.eq .m false x' y'))| .neq=>some (.p (.eq .m true x' y'))|_=>none)
  |some (.func _ _ _)=>(match op with| .eql=>some (.p (.eq .f false x' y'))| .neq=>some (.p (.eq .f true x' y'))|_=>none)
  |some (.struct _)=>i7 (V8 P 9 t) fun ks=>(match op with| .eql=>some (.p (.eqA ks false x' y'))| .neq=>some (.p (.eqA ks true x' y'))|_=>none)
  |some (.array _ _)=>i7 (V8 P 9 t) fun ks=>(match op with| .eql=>some (.p (.eqA ks false x' y'))| .neq=>some (.p (.eqA ks true x' y'))|_=>none)
  |_=>a6S N o
 | .unOp op _ x=>i7 (opd N x) fun x=>some (.p (.un op x))
 | .convert s d x=>i7 (opd N x) fun x'=>match P.underlying s,P.underlying d with
  |some (.int _),some (.int k)=>some (.p (.conv k x'))
  |some .string,some (.slice e)=>match P.underlying e with|some (.int .u8)=>some (.e (.s2b e x'))|_=>none
  |_,_=>a6S N o
 | .makeFunc f first captured=>i7 (b2c N first.toList) fun a=>i7 (b2c N captured.toList) fun b=>some (.p (.func f a b))
 | .makeSlice t l c=>i7 (opd N l) fun l=>i7 (opd N c) fun c=>match P.underlying t with
  |some (.slice e)=>i7 (G6 P e) fun sz=>i7 (T6 P e) fun by_=>i7 (Y7 P e) fun z=>if z.length=sz∧0<sz then some (.e (.mkslice e sz by_ z l c))else none
  |_=>none
 | .slice t x lo hi mx=>i7 (opd N x) fun x=>i7 (b9U N lo) fun lo'=>i7 (b9U N hi) fun hi'=>i7 (b9U N mx) fun mx'=>
  if mx.isSome&&hi.isNone then none else
  match P.underlying t with
  |some (.array n e)=>i7 (G6 P e) fun sz=>some (.p (.cutA n sz x lo' hi' mx'))
  |some .string=>if mx.isSome then none else some (.p (.cutT x lo' hi'))
  |some (.slice e)=>i7 (G6 P e) fun sz=>some (.p (.cutS sz x lo' hi' mx'))
  |some (.pointer a)=>match P.underlying a with|some (.array n e)=>i7 (G6 P e) fun sz=>some (.p (.cutA n sz x lo' hi' mx'))|_=>none
  |_=>none
 | .fieldAddr t x f=>i7 (opd N x) fun x=>match P.underlying t with
  |some (.struct fs)=>match fs.toList[f]? with
   |some fd=>i7 (G6 P fd.type) fun sz=>if sz=0 then none else some (.p (.addOff x fd.offset))
   |none=>none
  |_=>none
 | .field t x f=>i7 (opd N x) fun x=>match P.underlying t with
  |some (.struct fs)=>match fs.toList[f]? with
   |some fd=>i7 (G6 P fd.type) fun sz=>i7 (x8 P fd.type) fun g=>some (.p (.field fd.offset sz g x))
   |none=>none
  |_=>none
 | .indexAddr t x i=>i7 (opd N x) fun x=>i7 (opd N i) fun i=>match P.underlying t with
  |some (.slice e)=>i7 (G6 P e) fun sz=>some (.p (.idxS sz x i))
  |some (.array n e)=>i7 (G6 P e) fun sz=>some (.p (.idxA n sz x i))
  |_=>none
 | .index t x i=>i7 (opd N x) fun x=>i7 (opd N i) fun i=>match P.underlying t with
  |some .string=>some (.p (.idxT x i))
  |some (.array n e)=>i7 (G6 P e) fun sz=>i7 (x8 P e) fun g=>some (.p (.idxG n sz g x i))
  |_=>none
 | .extract t i=>i7 (opd N t) fun x=>some (.p (.extr x i))
 | .call c=>match a2t P N c with
  |some m=>some m
  |none=>if o.op.operands.toList.all (b9S N)then some (.e (.any o))else none
 |_=>a6S N o
def b0l(N:Nat)(ops:List Oper):Option (Nat×Bool)→Option (Option (Nat×Bool))
 |none=>some none
 |some (j,want)=>match ops[j]? with
  |some o=>match o.dst with
   |some d=>if d<N then some (some (d,want))else none
   |none=>none
  |none=>none
def b4J(N:Nat):Option Nat→Bool
 |none=>true
 |some d=>d<N
def a1D(P:Program)(N:Nat)(all:List Oper):List Oper→Option (List j1)
 | []=>some []
 |o::os=>if b4J N o.dst then i7 (a5j P N o) fun m=>i7 (b0l N all o.guard) fun g=>i7 (a1D P N all os) fun ms=>some (⟨o.dst,m,g⟩::ms)else none
def b3P(ops:List Oper)(listed:List Bool)(i:Nat):Bool:=
 !(listed.getD i true)&&(match ops[i]? with|some o=>o.after.toList.all (fun e=> !Region.binds .any e||listed.getD e.on false)|none=>false)
def a9i:MOp→Bool
 | .e _=>true
 |_=>false
def c2m:MOp→Bool
 | .r _=>true
 |_=>false
def b9K:Oper→Bool
 |{op:= .select _ _,.. }=>false
 |_=>true
def a6U(ops:List Oper)(listed:List Bool)(i:Nat)(o:Oper):Nat→List Oper→Bool
 |_,[]=>true
 |j,p::ps=>(j==i||listed.getD j true||p.after.toList.any (fun e=>Region.binds .any e&&e.on==i)||o.apart ops.toArray p)&&a6U ops listed i o (j+1) ps
def a4a(ops:List Oper)(i:Nat):Nat→Nat→Bool
 |0,_=>false
 |n+1,j=>match ops[j]? with
  |some o=>o.after.toList.any fun e=>Region.binds .any e&&(e.on==i||a4a ops i n e.on)
  |none=>false
def b5j(ops:List Oper)(ms:List j1)(j:Nat):Bool:=
 (List.range ms.length).any fun i=>(match ms[i]? with|some m=>c2m m.op&&i !=j&& !a4a ops i ops.length j|none=>false)
def b2g(ops:List Oper)(ms:List j1)(listed:List Bool):List Nat→Option Nat
 | []=>none
 |i::is=>match ops[i]?,ms[i]? with
  |some o,some m=>if b3P ops listed i&& !a9i m.op&&a6U ops listed i o 0 ops then some i else b2g ops ms listed is
  |_,_=>b2g ops ms listed is
def b8c(ops:List Oper)(ms:List j1)(listed:List Bool)(k:List Bool→Sch):List Nat→Sch
 | []=> .no
 |i::is=>if b3P ops listed i then .alt i (b5j ops ms i) (k (listed.set i true)) (b8c ops ms listed k is)else b8c ops ms listed k is
def a6T(ops:List Oper)(listed:List Bool):Bool:=(List.range ops.length).any fun i=>b3P ops listed i
def a9p(ops:List Oper)(ms:List j1):Nat→List Bool→Sch
 |0,listed=>if a6T ops listed then .bad else .done
 |n+1,listed=>match b2g ops ms listed (List.range ops.length)with
  |some i=> .take i (a9p ops ms n (listed.set i true))
  |none=>if a6T ops listed then b8c ops ms listed (fun l=>a9p ops ms n l) (List.range ops.length)else .bad
def a2s(P:Program)(N:Nat):Code→j6
 | .skip=> .skip
 | .region _ ops draw=>
  match a1D P N ops.toList ops.toList with
  |some ms=>if draw then(if ops.toList.all b9K&&P.follows .mixedOrders then .draw ms (a9p ops.toList ms ops.toList.length (List.replicate ops.toList.length false))else .fail)else .ops ms
  |none=> .fail
 | .seq a b=> .seq (a2s P N a) (a2s P N b)
 | .cond c x y=>match opd N c with|some c=> .cond c (a2s P N x) (a2s P N y)|none=> .fail
 | .block id c=> .block id (a2s P N c)
 | .loop c=> .loop (a2s P N c)
 | .exit id=> .exit id
 | .ret=> .ret
 | .scope c=>a2s P N c
 | .label _=> .skip
 |c=> .raw c
def a1E(P:Program)(N:Nat):List ResultVar→Option (List a3E)
 | []=>some []
 | .tmp t::rs=>if t<N then i7 (a1E P N rs) fun r=>some (.tmp t::r)else none
 | .cell a t::rs=>if a<N then i7 (x8 P t) fun g=>i7 (G6 P t) fun n=>i7 (a1E P N rs) fun r=>some (.cell a n g::r)else none
end Go.Proofs.YtjagmebglhbdkaaGreat.MX
