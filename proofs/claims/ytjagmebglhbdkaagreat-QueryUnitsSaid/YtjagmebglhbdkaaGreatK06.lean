import Derived.Test.YtjagmebglhbdkaaGreatK05
namespace Go.Proofs.YtjagmebglhbdkaaGreat.MX
open Go Go.Proofs
set_option linter.unusedSimpArgs false
set_option linter.unusedVariables false
section
universe u
structure Tag{β:Sort u}(k:β):Type where
def D5{α:Type}(x:Option α)(K:α→Prop)(_:Tag K):Prop:=N3 x K
def a0y(b:Bool)(X Y:Prop)(_:Tag X)(_:Tag Y):Prop:=M2 b X Y
def W7(v:Value)(X Y:Prop)(_:Tag X)(_:Tag Y):Prop:=a0g v X Y
def P5(n:Nat)(a:Value)(cs:List Value)(h:c9)(K:Value→c9→Prop)(_:Tag h)(_:Tag K):Prop:=cs.length=n∧wrW h a cs fun h'=>K undef h'
def a6A(T sz bytes:Nat)(z:List Value)(x y:Value)(h:c9)(K:Value→c9→Prop)(_:Tag h)(_:Tag K):Prop:=a9z T sz bytes z x y h K
def b7P(sz:Nat)(x y:Value)(h:c9)(K:Value→c9→Prop)(_:Tag h)(_:Tag K):Prop:=a8v sz x y h K
def s2bT(T:Nat)(x:Value)(h:c9)(K:Value→c9→Prop)(_:Tag h)(_:Tag K):Prop:=b9H T x h K
def mkT(T bytes:Nat)(z:List Value)(l c:Value)(h:c9)(K:Value→c9→Prop)(_:Tag h)(_:Tag K):Prop:=mkW T bytes z l c h K
def b0L(P:Program)(f:FuncId)(args:List Value)(h:c9)(K:Value→c9→Prop)(_:Tag h)(_:Tag K):Prop:=d8 P f args h K
def a3r(P:Program)(x:Value)(args:List Value)(h:c9)(K:Value→c9→Prop)(_:Tag h)(_:Tag K):Prop:=a3s P x args h K
def c2V(P:Program)(o:Oper)(ρ:Env)(h:c9)(K:Value→c9→Prop)(_:Tag ρ)(_:Tag h)(_:Tag K):Prop:=Eff.wp P ρ h K (.any o)
def a7h(P:Program)(c:j4)(Q:C8→Env→c9→Prop)(ρ:Env)(h:c9)(_:Tag c)(_:Tag Q)(_:Tag ρ)(_:Tag h):Prop:=mwp P (.loop c) Q ρ h
def a8y(P:Program)(l:List i9)(s:Sch)(Q:C8→Env→c9→Prop)(ρ:Env)(h:c9)(_:Tag l)(_:Tag s)(_:Tag Q)(_:Tag ρ)(_:Tag h):Prop:=mwp P (.draw l s) Q ρ h
section
variable{P:Program}{Q:C8→Env→c9→Prop}{ρ:Env}{h:c9}{K:Value→c9→Prop}{C:Env→c9→Prop}
theorem b8S:mwp P .skip Q ρ h=Q .normal ρ h:=(_root_.id rfl)
theorem c1B{l:List i9}:mwp P (.ops l) Q ρ h=N7 P l (Q .normal) ρ h:=(_root_.id rfl)
theorem c1D{a b:j4}:mwp P (.seq a b) Q ρ h=mwp P a (U0 (mwp P b Q) Q) ρ h:=(_root_.id rfl)
theorem b8O{c:Opd}{x y:j4}:mwp P (.cond c x y) Q ρ h=W7 (ev ρ c) (mwp P x Q ρ h) (mwp P y Q ρ h) ⟨⟩ ⟨⟩:=(_root_.id rfl)
theorem b8R{c:j4}:mwp P (.loop c) Q ρ h=a7h P c Q ρ h ⟨⟩ ⟨⟩ ⟨⟩ ⟨⟩:=(_root_.id rfl)
theorem b8P{l:List i9}{s:Sch}:mwp P (.draw l s) Q ρ h=a8y P l s Q ρ h ⟨⟩ ⟨⟩ ⟨⟩ ⟨⟩ ⟨⟩:=(_root_.id rfl)
theorem wBk{id:Nat}{c:j4}:mwp P (.block id c) Q ρ h=mwp P c (a2z id Q) ρ h:=(_root_.id rfl)
theorem b8Q{id:Nat}:mwp P (.exit id) Q ρ h=Q (.exit id) ρ h:=(_root_.id rfl)
theorem c1C:mwp P .ret Q ρ h=Q .ret ρ h:=(_root_.id rfl)
theorem b1J{k:Env→c9→Prop}:U0 k Q .normal=k:=(_root_.id rfl)
theorem b9q{k:Env→c9→Prop}:U0 k Q .ret=Q .ret:=(_root_.id rfl)
theorem a5p{k:Env→c9→Prop}{id:Nat}:U0 k Q (.exit id)=Q (.exit id):=(_root_.id rfl)
theorem b1I{id:Nat}:a2z id Q .normal=Q .normal:=(_root_.id rfl)
theorem b9p{id:Nat}:a2z id Q .ret=Q .ret:=(_root_.id rfl)
theorem b6u{id i:Nat}:a2z id Q (.exit i)=if i=id then Q .normal else Q (.exit i):=by
 funext ρ h;simp only[a2z];split<;>rfl
theorem b6k:N7 P [] C ρ h=C ρ h:=(_root_.id rfl)
theorem c1N{d:Option Nat}{x:j5}{os:List i9}:N7 P (⟨d,.p x,none⟩::os) C ρ h=D5 (x.val ρ) (fun v=>N7 P os C (M9 ρ d v) h) ⟨⟩:=by
 simp[N7,M2,O9,MOp.wp,D5]
theorem c1O{d:Option Nat}{x:a1Z}{os:List i9}:N7 P (⟨d,.r x,none⟩::os) C ρ h=D5 (x.val ρ h) (fun v=>N7 P os C (M9 ρ d v) h) ⟨⟩:=by
 simp[N7,M2,O9,MOp.wp,D5]
theorem c1L{d:Option Nat}{x:Eff}{os:List i9}:N7 P (⟨d,.e x,none⟩::os) C ρ h=x.wp P ρ h fun v h'=>N7 P os C (M9 ρ d v) h':=by
 simp[N7,M2,O9,MOp.wp]
theorem c1M{d:Option Nat}{x:MOp}{g:Nat×Bool}{os:List i9}:N7 P (⟨d,x,some g⟩::os) C ρ h=a0y (O9 ρ (some g)) (x.wp P ρ h fun v h'=>N7 P os C (M9 ρ d v) h') (N7 P os C (M9 ρ d undef) h) ⟨⟩ ⟨⟩:=(_root_.id rfl)
theorem wp_p{x:j5}:MOp.wp P ρ h K (.p x)=D5 (x.val ρ) (fun v=>K v h) ⟨⟩:=(_root_.id rfl)
theorem wp_r{x:a1Z}:MOp.wp P ρ h K (.r x)=D5 (x.val ρ h) (fun v=>K v h) ⟨⟩:=(_root_.id rfl)
theorem wp_e{x:Eff}:MOp.wp P ρ h K (.e x)=x.wp P ρ h K:=(_root_.id rfl)
def b4T(v:Value)(b:Bool):Bool:=match v with| .bool c=>c==b|_=>false
theorem b3B{s:Nat}{b:Bool}:O9 ρ (some (s,b))=b4T (ρ s) b:=(_root_.id rfl)
theorem b3C{c:Bool}:b4T (.bool c) true=c:=by cases c<;>rfl
theorem b2f{c:Bool}:b4T (.bool c) false= !c:=by cases c<;>rfl
theorem b2g{b:Bool}:b4T undef b=false:=(_root_.id rfl)
theorem ev_t{n:Nat}:ev ρ (.t n)=ρ n:=(_root_.id rfl)
theorem ev_c{v:Value}:ev ρ (.c v)=v:=(_root_.id rfl)
theorem c2p{d t:Nat}{v:Value}:upd ρ d v t=if t=d then v else ρ t:=(_root_.id rfl)
theorem b2B{X Y:Prop}{s:Tag X}{t:Tag Y}:W7 (.bool true) X Y s t=X:=by simp[W7,a0g]
theorem b0O{X Y:Prop}{s:Tag X}{t:Tag Y}:W7 (.bool false) X Y s t=Y:=by simp[W7,a0g]
theorem b2G{X Y:Prop}{s:Tag X}{t:Tag Y}:a0y true X Y s t=X:=by simp[a0y,M2]
theorem b0Z{X Y:Prop}{s:Tag X}{t:Tag Y}:a0y false X Y s t=Y:=by simp[a0y,M2]
theorem b2w{α:Type}{v:α}{K:α→Prop}{t:Tag K}:D5 (some v) K t=K v:=(_root_.id rfl)
theorem b7t{v:Value}{vs:List Value}:a0e (v::vs) 0=v:=(_root_.id rfl)
theorem b7u{a v:Value}{vs:List Value}:a0e (a::v::vs) 1=v:=(_root_.id rfl)
theorem b7v{a b v:Value}{vs:List Value}:a0e (a::b::v::vs) 2=v:=(_root_.id rfl)
theorem b7w{a b c v:Value}{vs:List Value}:a0e (a::b::c::v::vs) 3=v:=(_root_.id rfl)
theorem b7x{a b c d v:Value}{vs:List Value}:a0e (a::b::c::d::v::vs) 4=v:=(_root_.id rfl)
theorem b7y{a b c d e v:Value}{vs:List Value}:a0e (a::b::c::d::e::v::vs) 5=v:=(_root_.id rfl)
--pure operations
theorem c2w{x:Opd}:j5.val ρ (.mov x)=some (ev ρ x):=(_root_.id rfl)
theorem c0p{c a b:Opd}:j5.val ρ (.pick c a b)=b1C (ev ρ c) (ev ρ a) (ev ρ b):=(_root_.id rfl)
theorem b6Q{z:List Value}{ps:List (Nat×Nat×Opd)}:j5.val ρ (.build z ps)=i0 (a0h z (ps.map fun p=>(p.1,p.2.1,ev ρ p.2.2))) fun cs=>some (.agg cs.toArray):=(_root_.id rfl)
theorem b3y{x:Opd}:j5.val ρ (.nilchk x)=b8U (ev ρ x):=(_root_.id rfl)
theorem c2q{op:BinOp}{x y:Opd}:j5.val ρ (.bin op x y)=B9 op (ev ρ x) (ev ρ y):=(_root_.id rfl)
theorem c4a{k:EK}{n:Bool}{x y:Opd}:j5.val ρ (.eq k n x y)=i0 (eqV k (ev ρ x) (ev ρ y)) fun b=>some (.bool (if n then !b else b)):=(_root_.id rfl)
theorem c4c{op:UnOp}{x:Opd}:j5.val ρ (.un op x)=unV op (ev ρ x):=(_root_.id rfl)
theorem c0e{k:IntKind}{x:Opd}:j5.val ρ (.conv k x)=b0P k (ev ρ x):=(_root_.id rfl)
theorem b3x{x:Opd}{n:Nat}:j5.val ρ (.addOff x n)=a2H (ev ρ x) n:=(_root_.id rfl)
theorem c0m{sz:Nat}{x i:Opd}:j5.val ρ (.idxS sz x i)=a8I sz (ev ρ x) (ev ρ i):=(_root_.id rfl)
theorem c0k{ln sz:Nat}{x i:Opd}:j5.val ρ (.idxA ln sz x i)=a8H ln sz (ev ρ x) (ev ρ i):=(_root_.id rfl)
theorem c0g{sz:Nat}{x:Opd}{lo hi mx:Option Opd}:j5.val ρ (.cutS sz x lo hi mx)=a4F sz (ev ρ x) (lo.map (ev ρ)) (hi.map (ev ρ)) (mx.map (ev ρ)):=(_root_.id rfl)
theorem c0f{n sz:Nat}{x:Opd}{lo hi mx:Option Opd}:j5.val ρ (.cutA n sz x lo hi mx)=a1F n sz (ev ρ x) (lo.map (ev ρ)) (hi.map (ev ρ)) (mx.map (ev ρ)):=(_root_.id rfl)
theorem c0h{x:Opd}{lo hi:Option Opd}:j5.val ρ (.cutT x lo hi)=a6k (ev ρ x) (lo.map (ev ρ)) (hi.map (ev ρ)):=(_root_.id rfl)
theorem c2t{s:Bool}{x:Opd}:j5.val ρ (.len s x)=a9P s (ev ρ x):=(_root_.id rfl)
theorem c0o{n:Nat}:j5.val ρ (.lenA n)=some (.int .i64 n):=(_root_.id rfl)
theorem c2r{x:Opd}:j5.val ρ (.cap x)=b7G (ev ρ x):=(_root_.id rfl)
theorem c2v{x:Opd}{ys:List Opd}:j5.val ρ (.min x ys)=a3h b8K (ev ρ x) (ys.map (ev ρ)):=(_root_.id rfl)
theorem c2u{x:Opd}{ys:List Opd}:j5.val ρ (.max x ys)=a3h b8J (ev ρ x) (ys.map (ev ρ)):=(_root_.id rfl)
theorem b6R{off n:Nat}{g:Bool}{x:Opd}:j5.val ρ (.field off n g x)=a2i off n g (ev ρ x):=(_root_.id rfl)
theorem c0l{ln sz:Nat}{g:Bool}{x i:Opd}:j5.val ρ (.idxG ln sz g x i)=a5C ln sz g (ev ρ x) (ev ρ i):=(_root_.id rfl)
theorem c0n{x i:Opd}:j5.val ρ (.idxT x i)=a6X (ev ρ x) (ev ρ i):=(_root_.id rfl)
theorem c0i{x:Opd}{i:Nat}:j5.val ρ (.extr x i)=a8A (ev ρ x) i:=(_root_.id rfl)
theorem c0j{f:Fn}{a b:List Opd}:j5.val ρ (.func f a b)=some (.func f (a.map (ev ρ)).toArray (b.map (ev ρ)).toArray):=(_root_.id rfl)
theorem b6S{a:Opd}:a1Z.val ρ h (.load1 a)=rd1 h (ev ρ a):=(_root_.id rfl)
theorem b6T{n:Nat}{a:Opd}:a1Z.val ρ h (.loadN n a)=i0 (rdA h (ev ρ a) n) fun cs=>some (.agg cs.toArray):=(_root_.id rfl)
--values
noncomputable def dcd(p:Prop):Bool:= @decide p (Classical.propDecidable p)
theorem X8(p:Prop)[i:Decidable p]:dcd p=decide p:=by
 unfold dcd
 exact decide_eq_decide.2 Iff.rfl
theorem b7S:dcd True=true:=by rw[X8];rfl
theorem b5K:dcd False=false:=by rw[X8];rfl
theorem n9{p:Prop}(h:dcd p=true):p:= @of_decide_eq_true p (Classical.propDecidable p) h
theorem x9{p:Prop}(h:dcd p=false):¬p:= @of_decide_eq_false p (Classical.propDecidable p) h
theorem dT{p:Prop}(h:p):dcd p=true:= @decide_eq_true p (Classical.propDecidable p) h
theorem dF{p:Prop}(h:¬p):dcd p=false:= @decide_eq_false p (Classical.propDecidable p) h
theorem a9A{k:IntKind}{a b:Int}:B9 .add (.int k a) (.int k b)=some (.int k (k.wrap (a+b))):=by simp[B9,K8]
theorem a9F{k:IntKind}{a b:Int}:B9 .sub (.int k a) (.int k b)=some (.int k (k.wrap (a-b))):=by simp[B9,K8]
theorem a9C{k:IntKind}{a b:Int}:B9 .mul (.int k a) (.int k b)=some (.int k (k.wrap (a*b))):=by simp[B9,K8]
theorem b3K{k:IntKind}{a b:Int}(hb:b≠0):B9 .quo (.int k a) (.int k b)=some (.int k (k.wrap (a.tdiv b))):=by simp[B9,K8,hb]
theorem b3L{k:IntKind}{a b:Int}(hb:b≠0):B9 .rem (.int k a) (.int k b)=some (.int k (a.tmod b)):=by simp[B9,K8,hb]
theorem a9B{k:IntKind}{a b:Int}:B9 .and (.int k a) (.int k b)=some (.int k (k.wrap (BitVec.ofInt k.bits a&&&BitVec.ofInt k.bits b).toNat)):=by simp[B9,K8]
theorem b7A{k:IntKind}{a b:Int}:B9 .or (.int k a) (.int k b)=some (.int k (k.wrap (BitVec.ofInt k.bits a|||BitVec.ofInt k.bits b).toNat)):=by simp[B9,K8]
theorem c0U{k:IntKind}{a b:Int}:B9 .xor (.int k a) (.int k b)=some (.int k (k.wrap (BitVec.ofInt k.bits a^^^BitVec.ofInt k.bits b).toNat)):=by simp[B9,K8]
theorem c0O{k:IntKind}{a b:Int}:B9 .eql (.int k a) (.int k b)=some (.bool (dcd (a=b))):=by simp[B9,K8,X8,bne];rfl
theorem c0T{k:IntKind}{a b:Int}:B9 .neq (.int k a) (.int k b)=some (.bool (!dcd (a=b))):=by simp[B9,K8,X8,bne];rfl
theorem c0S{k:IntKind}{a b:Int}:B9 .lss (.int k a) (.int k b)=some (.bool (dcd (a<b))):=by simp[B9,K8,X8,bne]
theorem c0R{k:IntKind}{a b:Int}:B9 .leq (.int k a) (.int k b)=some (.bool (dcd (a≤b))):=by simp[B9,K8,X8,bne]
theorem c0Q{k:IntKind}{a b:Int}:B9 .gtr (.int k a) (.int k b)=some (.bool (dcd (b<a))):=by simp[B9,K8,X8,bne]
theorem c0P{k:IntKind}{a b:Int}:B9 .geq (.int k a) (.int k b)=some (.bool (dcd (b≤a))):=by simp[B9,K8,X8,bne]
theorem b3M{k k':IntKind}{a b:Int}(hb:0≤b):B9 .shl (.int k a) (.int k' b)=some (.int k (k.wrap (a*2^(min b.toNat k.bits)))):=by simp[B9,Int.not_lt.2 hb]
theorem a9E{k k':IntKind}{a b:Int}(hb:0≤b):B9 .shr (.int k a) (.int k' b)=some (.int k (a.fdiv (2^(min b.toNat k.bits)))):=by simp[B9,Int.not_lt.2 hb]
theorem c1o{a b:Bool}:eqV .b (.bool a) (.bool b)=some (a==b):=(_root_.id rfl)
theorem c4p{ks:List CK}{xs ys:List Value}:b5O ks (.agg xs.toArray) (.agg ys.toArray)=eqK ks xs ys:=by simp[b5O]
theorem c1n:eqK [] [] []=some true:=rfl
theorem c4r{ks:List CK}{k:IntKind}{a b:Int}{xs ys:List Value}:eqK (.i::ks) (.int k a::xs) (.int k b::ys)=i0 (eqK ks xs ys) fun c=>some (dcd (a=b)&&c):=by
 simp only[eqK,a0L,if_true,i0,X8];rfl
theorem c4q{ks:List CK}{a b:Bool}{xs ys:List Value}:eqK (.b::ks) (.bool a::xs) (.bool b::ys)=i0 (eqK ks xs ys) fun c=>some ((a==b)&&c):=by
 simp only[eqK,a0L,i0]
theorem c2s{ks:List CK}{n:Bool}{x y:Opd}:j5.val ρ (.eqA ks n x y)=i0 (b5O ks (ev ρ x) (ev ρ y)) fun b=>some (.bool (if n then !b else b)):=(_root_.id rfl)
theorem c4t{a:Option Addr}:eqV .p (.pointer a) (.pointer none)=some a.isNone:=by cases a<;>rfl
theorem c4s{a:Option Addr}:eqV .p (.pointer none) (.pointer a)=some a.isNone:=(_root_.id rfl)
theorem c4u{a:Option Addr}{n c m d:Nat}:eqV .s (.slice a n c) (.slice none m d)=some a.isNone:=by cases a<;>rfl
theorem c3X{k:IntKind}{a:Int}:unV .neg (.int k a)=some (.int k (k.wrap (0-a))):=(_root_.id rfl)
theorem c3Y{a:Bool}:unV .not (.bool a)=some (.bool (!a)):=(_root_.id rfl)
theorem b7O{k k':IntKind}{a:Int}:b0P k (.int k' a)=some (.int k (k.wrap a)):=(_root_.id rfl)
theorem b7o{b off n:Nat}:a2H (.pointer (some ⟨b,off,none⟩)) n=some (.pointer (some ⟨b,off+n,none⟩)):=by simp[a2H,P6]
theorem c3o{sz b off n c:Nat}{k:IntKind}{i:Int}(h0:0≤i)(h1:i<n):a8I sz (.slice (some ⟨b,off,none⟩) n c) (.int k i)=some (.pointer (some ⟨b,off+i.toNat*sz,none⟩)):=by simp[a8I,h0,h1,P6]
theorem c3l{ln sz b off:Nat}{k:IntKind}{i:Int}(h0:0≤i)(h1:i<ln):a8H ln sz (.pointer (some ⟨b,off,none⟩)) (.int k i)=some (.pointer (some ⟨b,off+i.toNat*sz,none⟩)):=by simp[a8H,h0,h1,P6]
theorem c4w{s:ByteArray}:a9P true (.string s)=some (.int .i64 s.size):=(_root_.id rfl)
theorem c4v{a:Option Addr}{n c:Nat}:a9P false (.slice a n c)=some (.int .i64 n):=(_root_.id rfl)
theorem c4k{a:Option Addr}{n c:Nat}:b7G (.slice a n c)=some (.int .i64 c):=(_root_.id rfl)
theorem c4A{k k':IntKind}{x y:Int}:b8K (.int k x) (.int k' y)=some (.int k (if y<x then y else x)):=(_root_.id rfl)
theorem c4z{k k':IntKind}{x y:Int}:b8J (.int k x) (.int k' y)=some (.int k (if y>x then y else x)):=(_root_.id rfl)
theorem b8h{f:Value→Value→Option Value}{x:Value}:a3h f x []=some x:=(_root_.id rfl)
theorem b5R{f:Value→Value→Option Value}{x y:Value}{ys:List Value}:a3h f x (y::ys)=i0 (f x y) fun z=>a3h f z ys:=(_root_.id rfl)
theorem c3C{c:Bool}{a b:Value}:b1C (.bool c) a b=some (if c then a else b):=(_root_.id rfl)
theorem c4C{a:Addr}:b8U (.pointer (some a))=some (.pointer (some a)):=(_root_.id rfl)
theorem c3h{vs:List Value}{i:Nat}:a8A (.tuple vs.toArray) i=vs[i]? :=by simp[a8A]
theorem c1q{off n:Nat}{l:List Value}:a2i off n false (.agg l.toArray)=l[off]? :=by simp[a2i]
theorem c1r{off n:Nat}{l:List Value}:a2i off n true (.agg l.toArray)=some (.agg ((l.drop off).take n).toArray):=by
 have:(List.take (off+n-off) (List.drop off l))=(l.drop off).take n:=by congr 1;omega
 simp[a2i,this]
theorem c3m{ln sz:Nat}{l:List Value}{k:IntKind}{i:Int}(h0:0≤i)(h1:i<ln):a5C ln sz false (.agg l.toArray) (.int k i)=l[i.toNat*sz]? :=by simp[a5C,h0,h1]
theorem c3n{ln sz:Nat}{l:List Value}{k:IntKind}{i:Int}(h0:0≤i)(h1:i<ln):a5C ln sz true (.agg l.toArray) (.int k i)=some (.agg ((l.drop (i.toNat*sz)).take sz).toArray):=by
 have:(List.take (i.toNat*sz+sz-i.toNat*sz) (List.drop (i.toNat*sz) l))=(l.drop (i.toNat*sz)).take sz:=by congr 1;omega
 simp[a5C,h0,h1,this]
theorem b7C{d:Nat}:bnd none d=some (d:Int):=(_root_.id rfl)
theorem b7D{k:IntKind}{i:Int}{d:Nat}:bnd (some (.int k i)) d=some i:=(_root_.id rfl)
theorem b9O{sz:Nat}{a:Option Addr}{len cap:Nat}{lo hi mx:Option Value}:a4F sz (.slice a len cap) lo hi mx=i0 (bnd lo 0) fun l=>i0 (bnd hi len) fun h=>i0 (bnd mx cap) fun m=>a1t a sz l h m cap:=(_root_.id rfl)
theorem b9N{n sz:Nat}{a:Addr}{lo hi mx:Option Value}:a1F n sz (.pointer (some a)) lo hi mx=i0 (bnd lo 0) fun l=>i0 (bnd hi n) fun h=>i0 (bnd mx n) fun m=>a1t (some a) sz l h m n:=(_root_.id rfl)
theorem b7R{a:Option Addr}{sz:Nat}{l h m cap:Int}(c0:0≤l)(c1:l≤h)(c2:h≤m)(c3:m≤cap):a1t a sz l h m cap=some (.slice (if m=l then a else a.map (·.add (l.toNat*sz))) (h-l).toNat (m-l).toNat):=by simp[a1t,c0,c1,c2,c3]
theorem c4l:((0:Nat):Int)=0:=(_root_.id rfl)
theorem b5w:bnd none 0=some 0:=(_root_.id rfl)
theorem c4m{a:Option Addr}{sz:Nat}{h m cap:Int}(c1:0≤h)(c2:h≤m)(c3:m≤cap):a1t a sz 0 h m cap=some (.slice a h.toNat m.toNat):=by
 have e:(a.map fun x=>x.add 0)=a:=by cases a<;>simp[Addr.add]
 simp[a1t,c1,c2,c3,e]
theorem b7Q{b off sz:Nat}{l h m cap:Int}(c0:0≤l)(c1:l≤h)(c2:h≤m)(c3:m≤cap)(hlt:l<m):a1t (some ⟨b,off,none⟩) sz l h m cap=some (.slice (some ⟨b,off+l.toNat*sz,none⟩) (h-l).toNat (m-l).toNat):=by
 simp[a1t,c0,c1,c2,c3,P6,show ¬(m=l) by omega]
theorem c1c{a:Option Addr}{sz:Nat}{l h m cap:Int}(c0:0≤l)(c1:l=h)(c2:h=m)(c3:m≤cap):a1t a sz l h m cap=some (.slice a 0 0):=by
 subst c1 c2
 simp[a1t,c0,c3]
theorem b5y{l:List Value}:cellsOf (.agg l.toArray)=l:=by simp[cellsOf,Value.cells]
theorem b5z{k:IntKind}{n:Int}:cellsOf (.int k n)=[.int k n]:=(_root_.id rfl)
theorem b2y{b:Bool}:cellsOf (.bool b)=[.bool b]:=(_root_.id rfl)
theorem b5C{s:ByteArray}:cellsOf (.string s)=[.string s]:=(_root_.id rfl)
theorem b5B{a:Option Addr}:cellsOf (.pointer a)=[.pointer a]:=(_root_.id rfl)
theorem b7L{a:Option Addr}{n c:Nat}:cellsOf (.slice a n c)=[.slice a n c]:=(_root_.id rfl)
theorem b7K{f:Fn}{a b:Array Value}:cellsOf (.func f a b)=[.func f a b]:=(_root_.id rfl)
theorem b5A{a:Option Nat}:cellsOf (.map a)=[.map a]:=(_root_.id rfl)
theorem b8f{z:List Value}:a0h z []=some z:=(_root_.id rfl)
theorem b5Q{z:List Value}{off size:Nat}{v:Value}{rest:List (Nat×Nat×Value)}:a0h z ((off,size,v)::rest)=if(cellsOf v).length=size∧off+size≤z.length then a0h (u6 z off (cellsOf v)) rest else none:=(_root_.id rfl)
theorem sN{c:List Value}{off:Nat}:u6 c off []=c:=(_root_.id rfl)
theorem sC{c:List Value}{off:Nat}{v:Value}{vs:List Value}:u6 c off (v::vs)=u6 (c.set off v) (off+1) vs:=(_root_.id rfl)
theorem c2B{z:List Value}:m8 z 0=[]:=(_root_.id rfl)
theorem c2C{z:List Value}:m8 z 1=z:=by simp[m8]
--results
theorem b6A:a1R ρ h []=some []:=(_root_.id rfl)
theorem b3k{r:a3m}{rs:List a3m}:a1R ρ h (r::rs)=i0 (b6z ρ h r) fun v=>i0 (a1R ρ h rs) fun vs=>some (v::vs):=(_root_.id rfl)
theorem b9z{t:Nat}:b6z ρ h (.tmp t)=some (ρ t):=(_root_.id rfl)
theorem b9y{t n:Nat}:b6z ρ h (.cell t n false)=rd1 h (ρ t):=(_root_.id rfl)
theorem b9x{t n:Nat}:b6z ρ h (.cell t n true)=i0 (rdA h (ρ t) n) fun cs=>some (.agg cs.toArray):=(_root_.id rfl)
theorem b1O{rs:List a3m}{R:Value→c9→Prop}:b9B rs R .normal ρ h=D5 (a1R ρ h rs) (fun vs=>R (a2w vs) h) ⟨⟩:=(_root_.id rfl)
theorem b9C{rs:List a3m}{R:Value→c9→Prop}:b9B rs R .ret ρ h=D5 (a1R ρ h rs) (fun vs=>R (a2w vs) h) ⟨⟩:=(_root_.id rfl)
theorem c1H{v:Value}:a2w [v]=v:=(_root_.id rfl)
theorem c1I{v u:Value}:a2w [v,u]= .tuple #[v,u]:=(_root_.id rfl)
theorem c1J{v u x:Value}:a2w [v,u,x]= .tuple #[v,u,x]:=(_root_.id rfl)
theorem c1K{v u x y:Value}:a2w [v,u,x,y]= .tuple #[v,u,x,y]:=(_root_.id rfl)
theorem c1G:a2w []= .tuple #[]:=(_root_.id rfl)
--effects
theorem eA{T:Nat}{z:List Value}:Eff.wp P ρ h K (.alloc T z)=K (.pointer (some ⟨h.size,0,none⟩)) (h.push (.cells z.toArray T (0,0))):=(_root_.id rfl)
theorem eB{T:Nat}{x:Opd}:Eff.wp P ρ h K (.box T x)=K (.pointer (some ⟨h.size,0,none⟩)) (h.push (.cells (cellsOf (ev ρ x)).toArray T (0,0))):=(_root_.id rfl)
theorem eS{T len:Nat}{z:List Value}{ps:List (Nat×Nat×Opd)}:Eff.wp P ρ h K (.bslice T len z ps)=D5 (a0h (m8 z len) (ps.map fun p=>(p.1,p.2.1,ev ρ p.2.2))) (fun cs=>
   K (.slice (some ⟨h.size,0,none⟩) len len) (h.push (.cells cs.toArray T (0,0)))) ⟨⟩:=(_root_.id rfl)
theorem c1l{n:Nat}{a x:Opd}:Eff.wp P ρ h K (.store n a x)=P5 n (ev ρ a) (cellsOf (ev ρ x)) h K ⟨⟩ ⟨⟩:=(_root_.id rfl)
theorem b7Z{T sz bytes:Nat}{z:List Value}{x y:Opd}:Eff.wp P ρ h K (.append T sz bytes z x y)=a6A T sz bytes z (ev ρ x) (ev ρ y) h K ⟨⟩ ⟨⟩:=(_root_.id rfl)
theorem c3f{sz:Nat}{x y:Opd}:Eff.wp P ρ h K (.copy sz x y)=b7P sz (ev ρ x) (ev ρ y) h K ⟨⟩ ⟨⟩:=(_root_.id rfl)
theorem c4o{T:Nat}{x:Opd}:Eff.wp P ρ h K (.s2b T x)=s2bT T (ev ρ x) h K ⟨⟩ ⟨⟩:=(_root_.id rfl)
theorem e_mk{T sz bytes:Nat}{z:List Value}{l c:Opd}:Eff.wp P ρ h K (.mkslice T sz bytes z l c)=mkT T bytes z (ev ρ l) (ev ρ c) h K ⟨⟩ ⟨⟩:=(_root_.id rfl)
def b2z(zero:List Value)(x:Value)(h:c9)(K:Value→c9→Prop)(_:Tag h)(_:Tag K):Prop:=a4S zero x h K
theorem c1k{sz:Nat}{z:List Value}{x:Opd}:Eff.wp P ρ h K (.clear sz z x)=b2z z (ev ρ x) h K ⟨⟩ ⟨⟩:=(_root_.id rfl)
theorem c3e{f:FuncId}{args:List Opd}:Eff.wp P ρ h K (.call f args)=b0L P f (args.map (ev ρ)) h K ⟨⟩ ⟨⟩:=(_root_.id rfl)
theorem c1j{x:Opd}{args:List Opd}:Eff.wp P ρ h K (.callv x args)=a3r P (ev ρ x) (args.map (ev ρ)) h K ⟨⟩ ⟨⟩:=(_root_.id rfl)
theorem c4n{o:Oper}:Eff.wp P ρ h K (.any o)=c2V P o ρ h K ⟨⟩ ⟨⟩ ⟨⟩:=(_root_.id rfl)
theorem a8t{f:FuncId}{a b:List Value}{args:List Value}{s:Tag h}{t:Tag K}(hok:a3D P f=true)(hc:d8 P f (a++args++b) h K):a3r P (.func (.func f) a.toArray b.toArray) args h K s t:=by
 simp only[a3r,a3s]
 exact⟨hok,by simpa using hc⟩
theorem cI{f:FuncId}{args:List Value}{s:Tag h}{t:Tag K}{R:Value→c9→Prop}(hc:d8 P f args h R)(hk:∀v h',R v h'→K v h'):b0L P f args h K s t:=hc.mono hk
--stores
def b0G(x:Option (List Value×Nat×(Nat×Nat)))(K:List Value→Nat→Nat×Nat→Prop)(_:Tag K):Prop:=match x with|some (c,e,f)=>K c e f|none=>False
theorem b2v{c:List Value}{e:Nat}{f:Nat×Nat}{K:List Value→Nat→Nat×Nat→Prop}{t:Tag K}:b0G (some (c,e,f)) K t=K c e f:=rfl
def c2b(off l n:Nat)(f:Nat×Nat):Prop:=off+l≤n∧(f.2≤f.1∨off+l≤f.1∨f.2≤off)
theorem b4I{off l n:Nat}(hl:off+l≤n):c2b off l n (0,0)=True:=by simp[c2b,hl]
theorem sT{n b off:Nat}{cs:List Value}{s:Tag h}{t:Tag K}:P5 n (.pointer (some ⟨b,off,none⟩)) cs h K s t=
  b0G (blk h b) (fun c e f=>(cs.length=n∧pC cs=true∧c2b off cs.length c.length f)∧K undef (h.setIfInBounds b (.cells (u6 c off cs).toArray e f))) ⟨⟩:=by
 simp only[P5,wrW,b0G,c2b]
 apply propext
 constructor
 ·rintro⟨h1,h2⟩
  split at h2
  ·rename_i c e f hb
   rw[hb]
   exact⟨⟨h1,h2.1.2.2,h2.1.1,h2.1.2.1⟩,h2.2⟩
  ·exact h2.elim
 ·intro h2
  split at h2
  ·rename_i c e f hb
   rw[hb]
   exact⟨h2.1.1,⟨h2.1.2.2.1,h2.1.2.2.2,h2.1.2.1⟩,h2.2⟩
  ·exact h2.elim
theorem b6o:pC []=true:=rfl
theorem a9a{k:IntKind}{n:Int}{vs:List Value}:pC (.int k n::vs)=pC vs:=by simp[pC,Value.oneCell']
theorem b2X{b:Bool}{vs:List Value}:pC (.bool b::vs)=pC vs:=by simp[pC,Value.oneCell']
theorem b6q{b:ByteArray}{vs:List Value}:pC (.string b::vs)=pC vs:=by simp[pC,Value.oneCell']
theorem b6p{a:Option Addr}{vs:List Value}:pC (.pointer a::vs)=pC vs:=by simp[pC,Value.oneCell']
theorem b9n{a:Option Addr}{n c:Nat}{vs:List Value}:pC (.slice a n c::vs)=pC vs:=by simp[pC,Value.oneCell']
theorem b6n{a:Option Nat}{vs:List Value}:pC (.map a::vs)=pC vs:=by simp[pC,Value.oneCell']
theorem b9m{f:Fn}{a b:Array Value}{vs:List Value}:pC (.func f a b::vs)=pC vs:=by simp[pC,Value.oneCell']
--branches
theorem cD{p:Prop}{X Y:Prop}{s:Tag X}{t:Tag Y}(hx:p→X)(hy:¬p→Y):W7 (.bool (dcd p)) X Y s t:=by
 by_cases h:p
 ·rw[dT h];simp only[W7,a0g,if_true];exact hx h
 ·rw[dF h];simp only[W7,a0g,Bool.false_eq_true,if_false];exact hy h
theorem b1a{p:Prop}{X Y:Prop}{s:Tag X}{t:Tag Y}(hx:p→X)(hy:¬p→Y):a0y (dcd p) X Y s t:=by
 by_cases h:p
 ·rw[dT h];simp only[a0y,M2,if_true];exact hx h
 ·rw[dF h];simp only[a0y,M2,Bool.false_eq_true,if_false];exact hy h
end
--loops,cuts,regions
def iv:Value→Int
 | .int _ n=>n
 |_=>0
theorem c3p{k:IntKind}{n:Int}:iv (.int k n)=n:=(_root_.id rfl)
section
variable{P:Program}{Q:C8→Env→c9→Prop}{ρ:Env}{h:c9}
theorem lI{c:j4}{t1:Tag c}{t2:Tag Q}{t3:Tag ρ}{t4:Tag h}(I:Env→c9→Prop)(μ:Env→c9→Nat)(h0:I ρ h)
  (hr:∀ρ h (J:Env→c9→Prop),(∀ρ' h',I ρ' h'→μ ρ' h'<μ ρ h→J ρ' h')→I ρ h→mwp P c (U0 J Q) ρ h):a7h P c Q ρ h t1 t2 t3 t4:=
 ⟨I,μ,h0,fun ρ h hi=>hr ρ h _ (fun _ _ a b=>⟨a,b⟩) hi⟩
theorem eK{f:FuncId}{m:MFn}(hc:a0X P f=some m){args:List Value}(hl:args.length≤m.n){h0:c9}{R:Value→c9→Prop}
  (hk:∀K:Value→c9→Prop,(∀v h',R v h'→K v h')→mwp P m.code (b9B m.res K) (a0e args) h0):d8 P f args h0 R:=
 enter hc hl (hk R fun _ _ h=>h)
end
section
variable{h h':c9}
theorem C4{c:List Value}{e:Nat}{f:Nat×Nat}{b:Nat}(hb:b=h.size):blk (h.push (.cells c.toArray e f)) b=some (c,e,f):=by
 subst hb;simp[blk]
theorem G0{o:Obj}{b:Nat}(hb:b<h.size):blk (h.push o) b=blk h b:=by
 simp only[blk,Array.getElem?_push,if_neg (Nat.ne_of_lt hb)]
theorem K7{c:List Value}{e:Nat}{f:Nat×Nat}{b:Nat}(hb:b<h.size):blk (h.setIfInBounds b (.cells c.toArray e f)) b=some (c,e,f):=a3U hb
theorem a1q{o:Obj}{b b':Nat}(hb:b'≠b):blk (h.setIfInBounds b o) b'=blk h b':=by
 simp only[blk,Array.getElem?_setIfInBounds_ne (Ne.symm hb)]
structure Fr(h h':c9)(M:List Nat):Prop where
 size:h.size≤h'.size
 same:∀b,b<h.size→b∉M→h'[b]? =h[b]?
theorem Fr.refl(h:c9)(M:List Nat):Fr h h M:=⟨v9 _,fun _ _ _=>rfl⟩
theorem Fr.trans{a b c:c9}{M:List Nat}(x:Fr a b M)(y:Fr b c M):Fr a c M:=
 ⟨Y0 x.size y.size,fun i hi hm=>(y.same i (Nat.lt_of_lt_of_le hi x.size) hm).trans (x.same i hi hm)⟩
theorem Fr.mono{a b:c9}{M M':List Nat}(x:Fr a b M)(hm:∀i,i<a.size→i∈M→i∈M'):Fr a b M':=
 ⟨x.size,fun i hi hn=>x.same i hi (fun h=>hn (hm i hi h))⟩
theorem Fr.via{a b c:c9}{M M':List Nat}(y:Fr b c M')(x:Fr a b M)(hm:∀i,i<a.size→i∈M'→i∈M):Fr a c M:=
 ⟨Y0 x.size y.size,fun i hi hn=>(y.same i (Nat.lt_of_lt_of_le hi x.size) (fun h=>hn (hm i hi h))).trans (x.same i hi hn)⟩
theorem Fr.push{a b:c9}{M:List Nat}(x:Fr a b M)(o:Obj):Fr a (b.push o) M:=
 ⟨by have:=x.size;simp;omega,fun i hi hm=>by have:=x.size;rw[Array.getElem?_push,if_neg (by omega)];exact x.same i hi hm⟩
theorem Fr.set{a b:c9}{M:List Nat}(x:Fr a b M){k:Nat}(hk:k∈M∨a.size≤k)(o:Obj):Fr a (b.setIfInBounds k o) M:=
 ⟨by have:=x.size;simp;omega,fun i hi hm=>by
  rw[Array.getElem?_setIfInBounds_ne (by rintro rfl;rcases hk with h|h;exact hm h;omega)]
  exact x.same i hi hm⟩
theorem Fr.setM{a b:c9}{M:List Nat}{k:Nat}(hk:k∈M)(x:Fr a b M)(o:Obj):Fr a (b.setIfInBounds k o) M:=x.set (.inl hk) o
theorem Fr.setN{a b:c9}{M:List Nat}{k:Nat}(hk:a.size≤k)(x:Fr a b M)(o:Obj):Fr a (b.setIfInBounds k o) M:=x.set (.inr hk) o
theorem Fr.blk{M:List Nat}(x:Fr h h' M){b:Nat}(hb:b<h.size)(hm:b∉M):blk h' b=blk h b:=by
 simp only[MX.blk,x.same b hb hm]
theorem Fr.rdN{M:List Nat}(x:Fr h h' M){b off n:Nat}(hb:b<h.size)(hm:b∉M):rdN h' b off n=rdN h b off n:=by
 simp only[MX.rdN,x.blk hb hm]
theorem a9Y{o:Obj}{b off:Nat}(hb:b<h.size):rd1 (h.push o) (.pointer (some ⟨b,off,none⟩))=rd1 h (.pointer (some ⟨b,off,none⟩)):=by
 simp only[rd1,rdA,rdN,G0 hb]
theorem b0a{o:Obj}{b off n:Nat}(hb:b<h.size):rdN (h.push o) b off n=rdN h b off n:=by simp only[rdN,G0 hb]
theorem b3c{o:Obj}{b b' off:Nat}(hb:b'≠b):rd1 (h.setIfInBounds b o) (.pointer (some ⟨b',off,none⟩))=rd1 h (.pointer (some ⟨b',off,none⟩)):=by
 simp only[rd1,rdA,rdN,a1q hb]
theorem b3e{o:Obj}{b b' off n:Nat}(hb:b'≠b):rdN (h.setIfInBounds b o) b' off n=rdN h b' off n:=by simp only[rdN,a1q hb]
theorem Fr.rd1{M:List Nat}(x:Fr h h' M){b off:Nat}(hb:b<h.size)(hm:b∉M):rd1 h' (.pointer (some ⟨b,off,none⟩))=rd1 h (.pointer (some ⟨b,off,none⟩)):=by
 simp only[MX.rd1,MX.rdA,x.rdN hb hm]
theorem b9r{b off n:Nat}:rdA h (.pointer (some ⟨b,off,none⟩)) n=rdN h b off n:=rfl
theorem n7{b off n:Nat}{c:List Value}{e:Nat}{f:Nat×Nat}(hb:blk h b=some (c,e,f))(hl:off+n≤c.length):rdN h b off n=some ((c.drop off).take n):=by
 simp only[rdN,hb,if_pos hl]
theorem j3{b off:Nat}{c:List Value}{e:Nat}{f:Nat×Nat}(hb:blk h b=some (c,e,f)):rd1 h (.pointer (some ⟨b,off,none⟩))=c[off]? :=by
 unfold rd1
 rw[b9r]
 unfold rdN
 rw[hb]
 simp only
 by_cases hl:off+1≤c.length
 ·rw[if_pos hl]
  have h1:c.drop off=c[off]::c.drop (off+1):=X0 (by omega)
  rw[h1,l_r (show off<c.length by omega)]
  rfl
 ·rw[if_neg hl,a0l (by omega)]
theorem b9s{b off n:Nat}{cs:List Value}(hr:rdN h b off n=some cs):b<h.size:=by
 unfold rdN at hr
 split at hr
 ·rename_i hb;exact F0 hb
 ·cases hr
theorem b9t{b off n k m:Nat}{cs:List Value}(hr:rdN h b off n=some cs)(hk:k+m≤n):rdN h b (off+k) m=some ((cs.drop k).take m):=by
 unfold rdN at hr⊢
 split at hr
 ·rename_i c e f hb
  split at hr
  ·rename_i hl
   cases hr
   rw[if_pos (by omega)]
   congr 1
   rw[List.drop_take,List.drop_drop,List.take_take]
   congr 1
   omega
  ·cases hr
 ·cases hr
theorem rP{b off n:Nat}{cs:List Value}(hr:rdN h b off n=some cs)(k:Nat)(hk:k<n):rd1 h (.pointer (some ⟨b,off+k,none⟩))=cs[k]? :=by
 have h1:=b9t (k:=k) (m:=1) hr hk
 have hl:cs.length=n:=(a7A (w:={(default:World)with heap:=h}) hr).1
 unfold rd1
 rw[b9r,h1]
 have h2:cs.drop k=cs[k]'(by omega)::cs.drop (k+1):=X0 (by omega)
 rw[h2,l_r (show k<cs.length by omega)]
 rfl
theorem rP0{b off n:Nat}{cs:List Value}(hr:rdN h b off n=some cs)(hk:0<n):rd1 h (.pointer (some ⟨b,off,none⟩))=cs[0]? :=rP hr 0 hk
theorem a9X{c:List Value}{e:Nat}{f:Nat×Nat}{b off:Nat}(hb:b=h.size):rd1 (h.push (.cells c.toArray e f)) (.pointer (some ⟨b,off,none⟩))=c[off]? :=j3 (C4 hb)
theorem a4y{c:List Value}{e:Nat}{f:Nat×Nat}{b off n:Nat}(hb:b=h.size)(hl:off+n≤c.length):rdN (h.push (.cells c.toArray e f)) b off n=some ((c.drop off).take n):=n7 (C4 hb) hl
theorem b3a{c:List Value}{e:Nat}{f:Nat×Nat}{b off:Nat}(hb:b<h.size):rd1 (h.setIfInBounds b (.cells c.toArray e f)) (.pointer (some ⟨b,off,none⟩))=c[off]? :=j3 (K7 hb)
theorem b3d{c:List Value}{e:Nat}{f:Nat×Nat}{b off n:Nat}(hb:b<h.size)(hl:off+n≤c.length):rdN (h.setIfInBounds b (.cells c.toArray e f)) b off n=some ((c.drop off).take n):=n7 (K7 hb) hl
def Arr{α:Type}(enc:α→List Value)(sz:Nat)(h:c9)(A:Option Addr)(xs:List α):Prop:=
 ∀i (hi:i<xs.length),∃b off,A=some ⟨b,off,none⟩∧rdN h b (off+i*sz) sz=some (enc xs[i])
theorem Arr.nil{α:Type}(enc:α→List Value)(sz:Nat)(h:c9)(A:Option Addr):Arr enc sz h A []:=fun i hi=>absurd hi (by simp)
theorem Arr.keep{α:Type}{enc:α→List Value}{sz:Nat}{A:Option Addr}{xs:List α}(ha:Arr enc sz h A xs)(hs:∀b off,A=some ⟨b,off,none⟩→xs≠[]→blk h' b=blk h b):Arr enc sz h' A xs:=by
 intro i hi
 obtain⟨b,off,hA,hr⟩:=ha i hi
 refine⟨b,off,hA,?_⟩
 rw[←hr]
 simp only[rdN,hs b off hA (by rintro rfl;simp at hi)]
end
theorem u5{x:Int}(h0: -9223372036854775808≤x)(h1:x<9223372036854775808):IntKind.i64.wrap x=x:=IntWalk.i64_in _ (by omega)
theorem c2z{x:Int}(h0:0≤x)(h1:x<256):IntKind.u8.wrap x=x:=by
 simp only[IntKind.wrap,IntKind.signed,IntKind.bits]
 simp
 omega
theorem c0q{x:Int}(h0:0≤x)(h1:x<4294967296):IntKind.u32.wrap x=x:=by
 simp only[IntKind.wrap,IntKind.signed,IntKind.bits]
 simp
 omega
theorem b2k{x:Int}(h0:0≤x)(h1:x<18446744073709551616):IntKind.u64.wrap x=x:=by
 simp only[IntKind.wrap,IntKind.signed,IntKind.bits]
 simp
 omega
attribute [go_sem ↓] b6P b6O c2p b8S c1B c1D b8O b8R b8P b8Q c1C b1J b9q a5p b1I b9p b6u b6k c1N c1O c1L c1M wp_p wp_r wp_e b3B ev_t ev_c b7t b7u b7v b7w b7x b7y c2w c0p b6Q b3y c2q c4a c2s c4c c0e b3x c0m c0k c0g c0f c0h c2t c0o c2r c2v c2u b6R c0l c0n c0i c0j b6S b6T b6A b3k b9z b9y b9x b1O b9C c1l b7Z c3f c1k c4o e_mk c3e c1j c4n
attribute [go_sem] b2v b4I b6o a9a b2X b6q b6p b9n b6n b9m C4 G0 K7 a1q a9X a9Y b3a b3c a4y b0a b3d b3e List.drop_zero List.drop_succ_cons List.take_succ_cons List.take_zero List.take_nil List.drop_nil b2w b2x b2G b0Z b2B b0O b3C b2f b2g c3p a9A a9F a9C b3K b3L a9B b7A c0U c0O c0T c0S c0R c0Q c0P b3M a9E b7S b5K dT dF c4p c1n c4r c4q c1o c4t c4s c4u c3X c3Y b7O b7o c3o c3l c4w c4v c4k c4A c4z b8h b5R c3C c4C c1q c1r c3m c3n c3h b5w b7C b7D b9O b9N c4l c4m b7Q c1c b5y b5z b2y b5C b5B b7L b7K b5A b8f b5Q sN sC c2B c2C c1G c1H c1I c1J c1K b9r u5 c2z c0q b2k List.map_cons List.map_nil List.set_cons_zero List.set_cons_succ List.length_cons List.length_nil List.getElem?_cons_zero List.getElem?_cons_succ List.nil_append List.cons_append List.append_nil Array.size_push Array.size_setIfInBounds Option.map_some Option.map_none Option.isNone_none Option.isNone_some Int.toNat_natCast Int.toNat_sub Int.sub_zero Nat.zero_add Nat.add_zero decide_true decide_false Bool.not_true Bool.not_false Bool.true_and Bool.false_and Bool.and_true Bool.and_false Bool.or_true Bool.or_false Bool.true_or Bool.false_or and_self true_and and_true Bool.false_eq_true if_true if_false not_true_eq_false not_false_eq_true ite_true ite_false ne_eq
universe v
theorem Pc{A B:Prop}(a:A)(b:B):A∧B:=⟨a,b⟩
theorem Pd{A B C:Prop}(a:A)(b:B)(c:C):A∧B∧C:=⟨a,b,c⟩
theorem Pe{A B C D:Prop}(a:A)(b:B)(c:C)(d:D):A∧B∧C∧D:=⟨a,b,c,d⟩
theorem Pf{A B C D E:Prop}(a:A)(b:B)(c:C)(d:D)(e:E):A∧B∧C∧D∧E:=⟨a,b,c,d,e⟩
theorem Wa{G H:Prop}(x:H)(z:G=H:=by((try simp(disch:=first|omega|assumption|exact l_a rfl) only[go_sem,↓wBk,simprocAttr]);exact rfl)):G:=(z).mpr x
theorem Wb{A G H:Prop}(a:A)(x:H)(z:A→G=H:=by(intro a;(try simp(disch:=first|omega|assumption|exact l_a rfl) only[go_sem,↓wBk,simprocAttr,a]);exact rfl)):G:=(z a).mpr x
theorem Wc{A B G H:Prop}(a:A)(b:B)(x:H)(z:A→B→G=H:=by(intro a b;(try simp(disch:=first|omega|assumption|exact l_a rfl) only[go_sem,↓wBk,simprocAttr,a,b]);exact rfl)):G:=(z a b).mpr x
theorem Wd{A B C G H:Prop}(a:A)(b:B)(c:C)(x:H)(z:A→B→C→G=H:=by(intro a b c;(try simp(disch:=first|omega|assumption|exact l_a rfl) only[go_sem,↓wBk,simprocAttr,a,b,c]);exact rfl)):G:=(z a b c).mpr x
theorem We{A B C D G H:Prop}(a:A)(b:B)(c:C)(d:D)(x:H)(z:A→B→C→D→G=H:=by(intro a b c d;(try simp(disch:=first|omega|assumption|exact l_a rfl) only[go_sem,↓wBk,simprocAttr,a,b,c,d]);exact rfl)):G:=(z a b c d).mpr x
theorem Wf{A B C D E G H:Prop}(a:A)(b:B)(c:C)(d:D)(e:E)(x:H)(z:A→B→C→D→E→G=H:=by(intro a b c d e;(try simp(disch:=first|omega|assumption|exact l_a rfl) only[go_sem,↓wBk,simprocAttr,a,b,c,d,e]);exact rfl)):G:=(z a b c d e).mpr x
theorem Wg{A B C D E F G H:Prop}(a:A)(b:B)(c:C)(d:D)(e:E)(f:F)(x:H)(z:A→B→C→D→E→F→G=H:=by(intro a b c d e f;(try simp(disch:=first|omega|assumption|exact l_a rfl) only[go_sem,↓wBk,simprocAttr,a,b,c,d,e,f]);exact rfl)):G:=(z a b c d e f).mpr x
theorem Wh{A B C D E F I G H:Prop}(a:A)(b:B)(c:C)(d:D)(e:E)(f:F)(i:I)(x:H)(z:A→B→C→D→E→F→I→G=H:=by(intro a b c d e f i;(try simp(disch:=first|omega|assumption|exact l_a rfl) only[go_sem,↓wBk,simprocAttr,a,b,c,d,e,f,i]);exact rfl)):G:=(z a b c d e f i).mpr x
theorem Wi{A B C D E F I J G H:Prop}(a:A)(b:B)(c:C)(d:D)(e:E)(f:F)(i:I)(j:J)(x:H)(z:A→B→C→D→E→F→I→J→G=H:=by(intro a b c d e f i j;(try simp(disch:=first|omega|assumption|exact l_a rfl) only[go_sem,↓wBk,simprocAttr,a,b,c,d,e,f,i,j]);exact rfl)):G:=(z a b c d e f i j).mpr x
theorem Xa{G H:Prop}(x:H)(z:G=H:=by((try simp(disch:=first|omega|assumption|((repeat' (first|exact Fr.refl _ _|assumption|(refine Fr.via (by assumption) ?_ (by intro i hi hm;first|exact hm|exact l_l _ hm|exact absurd hm l_d|(simp only[l_e,l_y,l_d,or_false]at hm⊢;omega)))|refine Fr.push ?_ _|(refine Fr.setM ?_ ?_ _; · first|exact l_n|(simp only[l_e,true_or,or_true];done))|(refine Fr.setN ?_ ?_ _; · first|omega|(simp only[l_c,l_b];omega))));done)|(simp only[l_c,l_b,l_f,l_g,l_e,l_d,or_false,false_or,U8,not_or];done)|(simp only[l_c,l_b,l_f,l_g,l_e,l_d,or_false,false_or,not_or];omega)) only[go_sem,↓wBk,↓eA,↓eB,↓eS,sT,simprocAttr]);exact rfl)):G:=(z).mpr x
theorem Xb{A G H:Prop}(a:A)(x:H)(z:A→G=H:=by(intro a;(try simp(disch:=first|omega|assumption|((repeat' (first|exact Fr.refl _ _|assumption|(refine Fr.via (by assumption) ?_ (by intro i hi hm;first|exact hm|exact l_l _ hm|exact absurd hm l_d|(simp only[l_e,l_y,l_d,or_false]at hm⊢;omega)))|refine Fr.push ?_ _|(refine Fr.setM ?_ ?_ _; · first|exact l_n|(simp only[l_e,true_or,or_true];done))|(refine Fr.setN ?_ ?_ _; · first|omega|(simp only[l_c,l_b];omega))));done)|(simp only[l_c,l_b,l_f,l_g,l_e,l_d,or_false,false_or,U8,not_or];done)|(simp only[l_c,l_b,l_f,l_g,l_e,l_d,or_false,false_or,not_or];omega)) only[go_sem,↓wBk,↓eA,↓eB,↓eS,sT,simprocAttr,a]);exact rfl)):G:=(z a).mpr x
theorem Xc{A B G H:Prop}(a:A)(b:B)(x:H)(z:A→B→G=H:=by(intro a b;(try simp(disch:=first|omega|assumption|((repeat' (first|exact Fr.refl _ _|assumption|(refine Fr.via (by assumption) ?_ (by intro i hi hm;first|exact hm|exact l_l _ hm|exact absurd hm l_d|(simp only[l_e,l_y,l_d,or_false]at hm⊢;omega)))|refine Fr.push ?_ _|(refine Fr.setM ?_ ?_ _; · first|exact l_n|(simp only[l_e,true_or,or_true];done))|(refine Fr.setN ?_ ?_ _; · first|omega|(simp only[l_c,l_b];omega))));done)|(simp only[l_c,l_b,l_f,l_g,l_e,l_d,or_false,false_or,U8,not_or];done)|(simp only[l_c,l_b,l_f,l_g,l_e,l_d,or_false,false_or,not_or];omega)) only[go_sem,↓wBk,↓eA,↓eB,↓eS,sT,simprocAttr,a,b]);exact rfl)):G:=(z a b).mpr x
theorem Xd{A B C G H:Prop}(a:A)(b:B)(c:C)(x:H)(z:A→B→C→G=H:=by(intro a b c;(try simp(disch:=first|omega|assumption|((repeat' (first|exact Fr.refl _ _|assumption|(refine Fr.via (by assumption) ?_ (by intro i hi hm;first|exact hm|exact l_l _ hm|exact absurd hm l_d|(simp only[l_e,l_y,l_d,or_false]at hm⊢;omega)))|refine Fr.push ?_ _|(refine Fr.setM ?_ ?_ _; · first|exact l_n|(simp only[l_e,true_or,or_true];done))|(refine Fr.setN ?_ ?_ _; · first|omega|(simp only[l_c,l_b];omega))));done)|(simp only[l_c,l_b,l_f,l_g,l_e,l_d,or_false,false_or,U8,not_or];done)|(simp only[l_c,l_b,l_f,l_g,l_e,l_d,or_false,false_or,not_or];omega)) only[go_sem,↓wBk,↓eA,↓eB,↓eS,sT,simprocAttr,a,b,c]);exact rfl)):G:=(z a b c).mpr x
theorem Xe{A B C D G H:Prop}(a:A)(b:B)(c:C)(d:D)(x:H)(z:A→B→C→D→G=H:=by(intro a b c d;(try simp(disch:=first|omega|assumption|((repeat' (first|exact Fr.refl _ _|assumption|(refine Fr.via (by assumption) ?_ (by intro i hi hm;first|exact hm|exact l_l _ hm|exact absurd hm l_d|(simp only[l_e,l_y,l_d,or_false]at hm⊢;omega)))|refine Fr.push ?_ _|(refine Fr.setM ?_ ?_ _; · first|exact l_n|(simp only[l_e,true_or,or_true];done))|(refine Fr.setN ?_ ?_ _; · first|omega|(simp only[l_c,l_b];omega))));done)|(simp only[l_c,l_b,l_f,l_g,l_e,l_d,or_false,false_or,U8,not_or];done)|(simp only[l_c,l_b,l_f,l_g,l_e,l_d,or_false,false_or,not_or];omega)) only[go_sem,↓wBk,↓eA,↓eB,↓eS,sT,simprocAttr,a,b,c,d]);exact rfl)):G:=(z a b c d).mpr x
theorem Xf{A B C D E G H:Prop}(a:A)(b:B)(c:C)(d:D)(e:E)(x:H)(z:A→B→C→D→E→G=H:=by(intro a b c d e;(try simp(disch:=first|omega|assumption|((repeat' (first|exact Fr.refl _ _|assumption|(refine Fr.via (by assumption) ?_ (by intro i hi hm;first|exact hm|exact l_l _ hm|exact absurd hm l_d|(simp only[l_e,l_y,l_d,or_false]at hm⊢;omega)))|refine Fr.push ?_ _|(refine Fr.setM ?_ ?_ _; · first|exact l_n|(simp only[l_e,true_or,or_true];done))|(refine Fr.setN ?_ ?_ _; · first|omega|(simp only[l_c,l_b];omega))));done)|(simp only[l_c,l_b,l_f,l_g,l_e,l_d,or_false,false_or,U8,not_or];done)|(simp only[l_c,l_b,l_f,l_g,l_e,l_d,or_false,false_or,not_or];omega)) only[go_sem,↓wBk,↓eA,↓eB,↓eS,sT,simprocAttr,a,b,c,d,e]);exact rfl)):G:=(z a b c d e).mpr x
theorem Xi{A B C D E F I J G H:Prop}(a:A)(b:B)(c:C)(d:D)(e:E)(f:F)(i:I)(j:J)(x:H)(z:A→B→C→D→E→F→I→J→G=H:=by(intro a b c d e f i j;(try simp(disch:=first|omega|assumption|((repeat' (first|exact Fr.refl _ _|assumption|(refine Fr.via (by assumption) ?_ (by intro i hi hm;first|exact hm|exact l_l _ hm|exact absurd hm l_d|(simp only[l_e,l_y,l_d,or_false]at hm⊢;omega)))|refine Fr.push ?_ _|(refine Fr.setM ?_ ?_ _; · first|exact l_n|(simp only[l_e,true_or,or_true];done))|(refine Fr.setN ?_ ?_ _; · first|omega|(simp only[l_c,l_b];omega))));done)|(simp only[l_c,l_b,l_f,l_g,l_e,l_d,or_false,false_or,U8,not_or];done)|(simp only[l_c,l_b,l_f,l_g,l_e,l_d,or_false,false_or,not_or];omega)) only[go_sem,↓wBk,↓eA,↓eB,↓eS,sT,simprocAttr,a,b,c,d,e,f,i,j]);exact rfl)):G:=(z a b c d e f i j).mpr x
theorem iL{n:Nat}:Int.ofNat (no_index (OfNat.ofNat n))=OfNat.ofNat n:=rfl
theorem iN{n:Nat}:Int.negSucc (no_index (OfNat.ofNat n))= -(OfNat.ofNat n+1):=rfl
abbrev j1(P:Program)(f:FuncId){m:MFn}(h:a0X P f=some m:=by(conv=>lhs;reduce;(try dsimp only[iL,iN,Int.reduceAdd]))):{m:MFn//a0X P f=some m}:=⟨m,h⟩
theorem EN{P:Program}{f:FuncId}{m:MFn}{pf:a0X P f=some m}{i:{m:MFn//a0X P f=some m}}(_:i=j1 P f pf){args:List Value}{h0:c9}{R:Value→c9→Prop}
  (hk:∀K:Value→c9→Prop,(∀v h',R v h'→K v h')→mwp P m.code (b9B m.res K) (a0e args) h0) (hl:args.length≤m.n:=by exact l_a rfl):d8 P f args h0 R:=eK pf hl hk
attribute [go_sem] j1 Option.isSome_none Option.isSome_some Bool.false_beq Bool.true_beq Option.getD_some Option.getD_none
end
end Go.Proofs.YtjagmebglhbdkaaGreat.MX
