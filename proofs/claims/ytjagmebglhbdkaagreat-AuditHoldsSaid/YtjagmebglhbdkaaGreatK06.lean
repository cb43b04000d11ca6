import Derived.Test.YtjagmebglhbdkaaGreatK05
namespace Go.Proofs.YtjagmebglhbdkaaGreat.MX
open Go Go.Proofs
set_option linter.unusedSimpArgs false
set_option linter.unusedVariables false
section
universe u
structure Tag{β:Sort u}(k:β):Type where
def D7{α:Type}(x:Option α)(K:α→Prop)(_:Tag K):Prop:=N7 x K
def a0N(b:Bool)(X Y:Prop)(_:Tag X)(_:Tag Y):Prop:=M6 b X Y
def X6(v:Value)(X Y:Prop)(_:Tag X)(_:Tag Y):Prop:=a0r v X Y
def P8(n:Nat)(a:Value)(cs:List Value)(h:c9)(K:Value→c9→Prop)(_:Tag h)(_:Tag K):Prop:=cs.length=n∧wrW h a cs fun h'=>K undef h'
def a6V(T sz bytes:Nat)(z:List Value)(x y:Value)(h:c9)(K:Value→c9→Prop)(_:Tag h)(_:Tag K):Prop:=a9Y T sz bytes z x y h K
def b8B(sz:Nat)(x y:Value)(h:c9)(K:Value→c9→Prop)(_:Tag h)(_:Tag K):Prop:=a8R sz x y h K
def s2bT(T:Nat)(x:Value)(h:c9)(K:Value→c9→Prop)(_:Tag h)(_:Tag K):Prop:=c0u T x h K
def mkT(T bytes:Nat)(z:List Value)(l c:Value)(h:c9)(K:Value→c9→Prop)(_:Tag h)(_:Tag K):Prop:=mkW T bytes z l c h K
def b1p(P:Program)(f:FuncId)(args:List Value)(h:c9)(K:Value→c9→Prop)(_:Tag h)(_:Tag K):Prop:=d8 P f args h K
def a3I(P:Program)(x:Value)(args:List Value)(h:c9)(K:Value→c9→Prop)(_:Tag h)(_:Tag K):Prop:=a3J P x args h K
def b6i(P:Program)(o:Oper)(ρ:Env)(h:c9)(K:Value→c9→Prop)(_:Tag ρ)(_:Tag h)(_:Tag K):Prop:=Eff.wp P ρ h K (.any o)
def a7B(P:Program)(c:j6)(Q:D6→Env→c9→Prop)(ρ:Env)(h:c9)(_:Tag c)(_:Tag Q)(_:Tag ρ)(_:Tag h):Prop:=mwp P (.loop c) Q ρ h
def a8V(P:Program)(l:List j1)(s:Sch)(Q:D6→Env→c9→Prop)(ρ:Env)(h:c9)(_:Tag l)(_:Tag s)(_:Tag Q)(_:Tag ρ)(_:Tag h):Prop:=mwp P (.draw l s) Q ρ h
section
variable{P:Program}{Q:D6→Env→c9→Prop}{ρ:Env}{h:c9}{K:Value→c9→Prop}{C:Env→c9→Prop}
theorem b9G:mwp P .skip Q ρ h=Q .normal ρ h:=(_root_.id rfl)
theorem c2r{l:List j1}:mwp P (.ops l) Q ρ h=O2 P l (Q .normal) ρ h:=(_root_.id rfl)
theorem c2t{a b:j6}:mwp P (.seq a b) Q ρ h=mwp P a (V0 (mwp P b Q) Q) ρ h:=(_root_.id rfl)
theorem b9C{c:Opd}{x y:j6}:mwp P (.cond c x y) Q ρ h=X6 (ev ρ c) (mwp P x Q ρ h) (mwp P y Q ρ h) ⟨⟩ ⟨⟩:=(_root_.id rfl)
theorem b9F{c:j6}:mwp P (.loop c) Q ρ h=a7B P c Q ρ h ⟨⟩ ⟨⟩ ⟨⟩ ⟨⟩:=(_root_.id rfl)
theorem b9D{l:List j1}{s:Sch}:mwp P (.draw l s) Q ρ h=a8V P l s Q ρ h ⟨⟩ ⟨⟩ ⟨⟩ ⟨⟩ ⟨⟩:=(_root_.id rfl)
theorem wBk{id:Nat}{c:j6}:mwp P (.block id c) Q ρ h=mwp P c (a2N id Q) ρ h:=(_root_.id rfl)
theorem b9E{id:Nat}:mwp P (.exit id) Q ρ h=Q (.exit id) ρ h:=(_root_.id rfl)
theorem c2s:mwp P .ret Q ρ h=Q .ret ρ h:=(_root_.id rfl)
theorem b2p{k:Env→c9→Prop}:V0 k Q .normal=k:=(_root_.id rfl)
theorem c0d{k:Env→c9→Prop}:V0 k Q .ret=Q .ret:=(_root_.id rfl)
theorem a5G{k:Env→c9→Prop}{id:Nat}:V0 k Q (.exit id)=Q (.exit id):=(_root_.id rfl)
theorem b2o{id:Nat}:a2N id Q .normal=Q .normal:=(_root_.id rfl)
theorem c0c{id:Nat}:a2N id Q .ret=Q .ret:=(_root_.id rfl)
theorem b7j{id i:Nat}:a2N id Q (.exit i)=if i=id then Q .normal else Q (.exit i):=by
 funext ρ h;simp only[a2N];split<;>rfl
theorem b6Z:O2 P [] C ρ h=C ρ h:=(_root_.id rfl)
theorem c2D{d:Option Nat}{x:j7}{os:List j1}:O2 P (⟨d,.p x,none⟩::os) C ρ h=D7 (x.val ρ) (fun v=>O2 P os C (N5 ρ d v) h) ⟨⟩:=by
 simp[O2,M6,P5,MOp.wp,D7]
theorem c2E{d:Option Nat}{x:a2o}{os:List j1}:O2 P (⟨d,.r x,none⟩::os) C ρ h=D7 (x.val ρ h) (fun v=>O2 P os C (N5 ρ d v) h) ⟨⟩:=by
 simp[O2,M6,P5,MOp.wp,D7]
theorem c2B{d:Option Nat}{x:Eff}{os:List j1}:O2 P (⟨d,.e x,none⟩::os) C ρ h=x.wp P ρ h fun v h'=>O2 P os C (N5 ρ d v) h':=by
 simp[O2,M6,P5,MOp.wp]
theorem c2C{d:Option Nat}{x:MOp}{g:Nat×Bool}{os:List j1}:O2 P (⟨d,x,some g⟩::os) C ρ h=a0N (P5 ρ (some g)) (x.wp P ρ h fun v h'=>O2 P os C (N5 ρ d v) h') (O2 P os C (N5 ρ d undef) h) ⟨⟩ ⟨⟩:=(_root_.id rfl)
theorem wp_p{x:j7}:MOp.wp P ρ h K (.p x)=D7 (x.val ρ) (fun v=>K v h) ⟨⟩:=(_root_.id rfl)
theorem wp_r{x:a2o}:MOp.wp P ρ h K (.r x)=D7 (x.val ρ h) (fun v=>K v h) ⟨⟩:=(_root_.id rfl)
theorem wp_e{x:Eff}:MOp.wp P ρ h K (.e x)=x.wp P ρ h K:=(_root_.id rfl)
def b5I(v:Value)(b:Bool):Bool:=match v with| .bool c=>c==b|_=>false
theorem b4m{s:Nat}{b:Bool}:P5 ρ (some (s,b))=b5I (ρ s) b:=(_root_.id rfl)
theorem b4n{c:Bool}:b5I (.bool c) true=c:=by cases c<;>rfl
theorem b2M{c:Bool}:b5I (.bool c) false= !c:=by cases c<;>rfl
theorem b2N{b:Bool}:b5I undef b=false:=(_root_.id rfl)
theorem ev_t{n:Nat}:ev ρ (.t n)=ρ n:=(_root_.id rfl)
theorem ev_c{v:Value}:ev ρ (.c v)=v:=(_root_.id rfl)
theorem c3d{d t:Nat}{v:Value}:upd ρ d v t=if t=d then v else ρ t:=(_root_.id rfl)
theorem b3i{X Y:Prop}{s:Tag X}{t:Tag Y}:X6 (.bool true) X Y s t=X:=by simp[X6,a0r]
theorem b1s{X Y:Prop}{s:Tag X}{t:Tag Y}:X6 (.bool false) X Y s t=Y:=by simp[X6,a0r]
theorem b3o{X Y:Prop}{s:Tag X}{t:Tag Y}:a0N true X Y s t=X:=by simp[a0N,M6]
theorem b1E{X Y:Prop}{s:Tag X}{t:Tag Y}:a0N false X Y s t=Y:=by simp[a0N,M6]
theorem b3c{α:Type}{v:α}{K:α→Prop}{t:Tag K}:D7 (some v) K t=K v:=(_root_.id rfl)
theorem b8f{v:Value}{vs:List Value}:a0p (v::vs) 0=v:=(_root_.id rfl)
theorem b8g{a v:Value}{vs:List Value}:a0p (a::v::vs) 1=v:=(_root_.id rfl)
theorem b8h{a b v:Value}{vs:List Value}:a0p (a::b::v::vs) 2=v:=(_root_.id rfl)
theorem b8i{a b c v:Value}{vs:List Value}:a0p (a::b::c::v::vs) 3=v:=(_root_.id rfl)
theorem b8j{a b c d v:Value}{vs:List Value}:a0p (a::b::c::d::v::vs) 4=v:=(_root_.id rfl)
theorem b8k{a b c d e v:Value}{vs:List Value}:a0p (a::b::c::d::e::v::vs) 5=v:=(_root_.id rfl)
--pure operations
theorem c3k{x:Opd}:j7.val ρ (.mov x)=some (ev ρ x):=(_root_.id rfl)
theorem c1d{c a b:Opd}:j7.val ρ (.pick c a b)=b2h (ev ρ c) (ev ρ a) (ev ρ b):=(_root_.id rfl)
theorem b7E{z:List Value}{ps:List (Nat×Nat×Opd)}:j7.val ρ (.build z ps)=i7 (a0s z (ps.map fun p=>(p.1,p.2.1,ev ρ p.2.2))) fun cs=>some (.agg cs.toArray):=(_root_.id rfl)
theorem b4j{x:Opd}:j7.val ρ (.nilchk x)=b9I (ev ρ x):=(_root_.id rfl)
theorem c3e{op:BinOp}{x y:Opd}:j7.val ρ (.bin op x y)=C0 op (ev ρ x) (ev ρ y):=(_root_.id rfl)
theorem c4M{k:EK}{n:Bool}{x y:Opd}:j7.val ρ (.eq k n x y)=i7 (eqV k (ev ρ x) (ev ρ y)) fun b=>some (.bool (if n then !b else b)):=(_root_.id rfl)
theorem c4O{op:UnOp}{x:Opd}:j7.val ρ (.un op x)=unV op (ev ρ x):=(_root_.id rfl)
theorem c0S{k:IntKind}{x:Opd}:j7.val ρ (.conv k x)=b1t k (ev ρ x):=(_root_.id rfl)
theorem b4i{x:Opd}{n:Nat}:j7.val ρ (.addOff x n)=a2X (ev ρ x) n:=(_root_.id rfl)
theorem c1a{sz:Nat}{x i:Opd}:j7.val ρ (.idxS sz x i)=a9f sz (ev ρ x) (ev ρ i):=(_root_.id rfl)
theorem c0Y{ln sz:Nat}{x i:Opd}:j7.val ρ (.idxA ln sz x i)=a9e ln sz (ev ρ x) (ev ρ i):=(_root_.id rfl)
theorem c0U{sz:Nat}{x:Opd}{lo hi mx:Option Opd}:j7.val ρ (.cutS sz x lo hi mx)=a4W sz (ev ρ x) (lo.map (ev ρ)) (hi.map (ev ρ)) (mx.map (ev ρ)):=(_root_.id rfl)
theorem c0T{n sz:Nat}{x:Opd}{lo hi mx:Option Opd}:j7.val ρ (.cutA n sz x lo hi mx)=a1T n sz (ev ρ x) (lo.map (ev ρ)) (hi.map (ev ρ)) (mx.map (ev ρ)):=(_root_.id rfl)
theorem c0V{x:Opd}{lo hi:Option Opd}:j7.val ρ (.cutT x lo hi)=a6E (ev ρ x) (lo.map (ev ρ)) (hi.map (ev ρ)):=(_root_.id rfl)
theorem c3h{s:Bool}{x:Opd}:j7.val ρ (.len s x)=b0o s (ev ρ x):=(_root_.id rfl)
theorem c1c{n:Nat}:j7.val ρ (.lenA n)=some (.int .i64 n):=(_root_.id rfl)
theorem c3f{x:Opd}:j7.val ρ (.cap x)=b8s (ev ρ x):=(_root_.id rfl)
theorem c3j{x:Opd}{ys:List Opd}:j7.val ρ (.min x ys)=a3x b9x (ev ρ x) (ys.map (ev ρ)):=(_root_.id rfl)
theorem c3i{x:Opd}{ys:List Opd}:j7.val ρ (.max x ys)=a3x b9w (ev ρ x) (ys.map (ev ρ)):=(_root_.id rfl)
theorem b7F{off n:Nat}{g:Bool}{x:Opd}:j7.val ρ (.field off n g x)=a2y off n g (ev ρ x):=(_root_.id rfl)
theorem c0Z{ln sz:Nat}{g:Bool}{x i:Opd}:j7.val ρ (.idxG ln sz g x i)=a5W ln sz g (ev ρ x) (ev ρ i):=(_root_.id rfl)
theorem c1b{x i:Opd}:j7.val ρ (.idxT x i)=a7r (ev ρ x) (ev ρ i):=(_root_.id rfl)
theorem c0W{x:Opd}{i:Nat}:j7.val ρ (.extr x i)=a8X (ev ρ x) i:=(_root_.id rfl)
theorem c0X{f:Fn}{a b:List Opd}:j7.val ρ (.func f a b)=some (.func f (a.map (ev ρ)).toArray (b.map (ev ρ)).toArray):=(_root_.id rfl)
theorem b7G{a:Opd}:a2o.val ρ h (.load1 a)=rd1 h (ev ρ a):=(_root_.id rfl)
theorem b7H{n:Nat}{a:Opd}:a2o.val ρ h (.loadN n a)=i7 (rdA h (ev ρ a) n) fun cs=>some (.agg cs.toArray):=(_root_.id rfl)
--values
noncomputable def dcd(p:Prop):Bool:= @decide p (Classical.propDecidable p)
theorem Y8(p:Prop)[i:Decidable p]:dcd p=decide p:=by
 unfold dcd
 exact decide_eq_decide.2 Iff.rfl
theorem b8E:dcd True=true:=by rw[Y8];rfl
theorem a8U:dcd False=false:=by rw[Y8];rfl
theorem s7{p:Prop}(h:dcd p=true):p:= @of_decide_eq_true p (Classical.propDecidable p) h
theorem y7{p:Prop}(h:dcd p=false):¬p:= @of_decide_eq_false p (Classical.propDecidable p) h
theorem dT{p:Prop}(h:p):dcd p=true:= @decide_eq_true p (Classical.propDecidable p) h
theorem dF{p:Prop}(h:¬p):dcd p=false:= @decide_eq_false p (Classical.propDecidable p) h
theorem a9Z{k:IntKind}{a b:Int}:C0 .add (.int k a) (.int k b)=some (.int k (k.wrap (a+b))):=by simp[C0,L4]
theorem b0e{k:IntKind}{a b:Int}:C0 .sub (.int k a) (.int k b)=some (.int k (k.wrap (a-b))):=by simp[C0,L4]
theorem b0b{k:IntKind}{a b:Int}:C0 .mul (.int k a) (.int k b)=some (.int k (k.wrap (a*b))):=by simp[C0,L4]
theorem b4x{k:IntKind}{a b:Int}(hb:b≠0):C0 .quo (.int k a) (.int k b)=some (.int k (k.wrap (a.tdiv b))):=by simp[C0,L4,hb]
theorem b4y{k:IntKind}{a b:Int}(hb:b≠0):C0 .rem (.int k a) (.int k b)=some (.int k (a.tmod b)):=by simp[C0,L4,hb]
theorem b0a{k:IntKind}{a b:Int}:C0 .and (.int k a) (.int k b)=some (.int k (k.wrap (BitVec.ofInt k.bits a&&&BitVec.ofInt k.bits b).toNat)):=by simp[C0,L4]
theorem b8m{k:IntKind}{a b:Int}:C0 .or (.int k a) (.int k b)=some (.int k (k.wrap (BitVec.ofInt k.bits a|||BitVec.ofInt k.bits b).toNat)):=by simp[C0,L4]
theorem c1K{k:IntKind}{a b:Int}:C0 .xor (.int k a) (.int k b)=some (.int k (k.wrap (BitVec.ofInt k.bits a^^^BitVec.ofInt k.bits b).toNat)):=by simp[C0,L4]
theorem c1E{k:IntKind}{a b:Int}:C0 .eql (.int k a) (.int k b)=some (.bool (dcd (a=b))):=by simp[C0,L4,Y8,bne];rfl
theorem c1J{k:IntKind}{a b:Int}:C0 .neq (.int k a) (.int k b)=some (.bool (!dcd (a=b))):=by simp[C0,L4,Y8,bne];rfl
theorem c1I{k:IntKind}{a b:Int}:C0 .lss (.int k a) (.int k b)=some (.bool (dcd (a<b))):=by simp[C0,L4,Y8,bne]
theorem c1H{k:IntKind}{a b:Int}:C0 .leq (.int k a) (.int k b)=some (.bool (dcd (a≤b))):=by simp[C0,L4,Y8,bne]
theorem c1G{k:IntKind}{a b:Int}:C0 .gtr (.int k a) (.int k b)=some (.bool (dcd (b<a))):=by simp[C0,L4,Y8,bne]
theorem c1F{k:IntKind}{a b:Int}:C0 .geq (.int k a) (.int k b)=some (.bool (dcd (b≤a))):=by simp[C0,L4,Y8,bne]
theorem b4z{k k':IntKind}{a b:Int}(hb:0≤b):C0 .shl (.int k a) (.int k' b)=some (.int k (k.wrap (a*2^(min b.toNat k.bits)))):=by simp[C0,Int.not_lt.2 hb]
theorem b0d{k k':IntKind}{a b:Int}(hb:0≤b):C0 .shr (.int k a) (.int k' b)=some (.int k (a.fdiv (2^(min b.toNat k.bits)))):=by simp[C0,Int.not_lt.2 hb]
theorem c2c{a b:Bool}:eqV .b (.bool a) (.bool b)=some (a==b):=(_root_.id rfl)
theorem c5b{ks:List CK}{xs ys:List Value}:b6D ks (.agg xs.toArray) (.agg ys.toArray)=eqK ks xs ys:=by simp[b6D]
theorem c2b:eqK [] [] []=some true:=rfl
theorem c5d{ks:List CK}{k:IntKind}{a b:Int}{xs ys:List Value}:eqK (.i::ks) (.int k a::xs) (.int k b::ys)=i7 (eqK ks xs ys) fun c=>some (dcd (a=b)&&c):=by
 simp only[eqK,a0Y,if_true,i7,Y8];rfl
theorem c5c{ks:List CK}{a b:Bool}{xs ys:List Value}:eqK (.b::ks) (.bool a::xs) (.bool b::ys)=i7 (eqK ks xs ys) fun c=>some ((a==b)&&c):=by
 simp only[eqK,a0Y,i7]
theorem c3g{ks:List CK}{n:Bool}{x y:Opd}:j7.val ρ (.eqA ks n x y)=i7 (b6D ks (ev ρ x) (ev ρ y)) fun b=>some (.bool (if n then !b else b)):=(_root_.id rfl)
theorem c5f{a:Option Addr}:eqV .p (.pointer a) (.pointer none)=some a.isNone:=by cases a<;>rfl
theorem c5e{a:Option Addr}:eqV .p (.pointer none) (.pointer a)=some a.isNone:=(_root_.id rfl)
theorem c5g{a:Option Addr}{n c m d:Nat}:eqV .s (.slice a n c) (.slice none m d)=some a.isNone:=by cases a<;>rfl
theorem c4J{k:IntKind}{a:Int}:unV .neg (.int k a)=some (.int k (k.wrap (0-a))):=(_root_.id rfl)
theorem c4K{a:Bool}:unV .not (.bool a)=some (.bool (!a)):=(_root_.id rfl)
theorem b8A{k k':IntKind}{a:Int}:b1t k (.int k' a)=some (.int k (k.wrap a)):=(_root_.id rfl)
theorem b7Z{b off n:Nat}:a2X (.pointer (some ⟨b,off,none⟩)) n=some (.pointer (some ⟨b,off+n,none⟩)):=by simp[a2X,P9]
theorem c4b{sz b off n c:Nat}{k:IntKind}{i:Int}(h0:0≤i)(h1:i<n):a9f sz (.slice (some ⟨b,off,none⟩) n c) (.int k i)=some (.pointer (some ⟨b,off+i.toNat*sz,none⟩)):=by simp[a9f,h0,h1,P9]
theorem c3Y{ln sz b off:Nat}{k:IntKind}{i:Int}(h0:0≤i)(h1:i<ln):a9e ln sz (.pointer (some ⟨b,off,none⟩)) (.int k i)=some (.pointer (some ⟨b,off+i.toNat*sz,none⟩)):=by simp[a9e,h0,h1,P9]
theorem c5i{s:ByteArray}:b0o true (.string s)=some (.int .i64 s.size):=(_root_.id rfl)
theorem c5h{a:Option Addr}{n c:Nat}:b0o false (.slice a n c)=some (.int .i64 n):=(_root_.id rfl)
theorem c4W{a:Option Addr}{n c:Nat}:b8s (.slice a n c)=some (.int .i64 c):=(_root_.id rfl)
theorem c5m{k k':IntKind}{x y:Int}:b9x (.int k x) (.int k' y)=some (.int k (if y<x then y else x)):=(_root_.id rfl)
theorem c5l{k k':IntKind}{x y:Int}:b9w (.int k x) (.int k' y)=some (.int k (if y>x then y else x)):=(_root_.id rfl)
theorem b8T{f:Value→Value→Option Value}{x:Value}:a3x f x []=some x:=(_root_.id rfl)
theorem b6G{f:Value→Value→Option Value}{x y:Value}{ys:List Value}:a3x f x (y::ys)=i7 (f x y) fun z=>a3x f z ys:=(_root_.id rfl)
theorem c4o{c:Bool}{a b:Value}:b2h (.bool c) a b=some (if c then a else b):=(_root_.id rfl)
theorem c5o{a:Addr}:b9I (.pointer (some a))=some (.pointer (some a)):=(_root_.id rfl)
theorem c3U{vs:List Value}{i:Nat}:a8X (.tuple vs.toArray) i=vs[i]? :=by simp[a8X]
theorem c2e{off n:Nat}{l:List Value}:a2y off n false (.agg l.toArray)=l[off]? :=by simp[a2y]
theorem c2f{off n:Nat}{l:List Value}:a2y off n true (.agg l.toArray)=some (.agg ((l.drop off).take n).toArray):=by
 have:(List.take (off+n-off) (List.drop off l))=(l.drop off).take n:=by congr 1;omega
 simp[a2y,this]
theorem c3Z{ln sz:Nat}{l:List Value}{k:IntKind}{i:Int}(h0:0≤i)(h1:i<ln):a5W ln sz false (.agg l.toArray) (.int k i)=l[i.toNat*sz]? :=by simp[a5W,h0,h1]
theorem c4a{ln sz:Nat}{l:List Value}{k:IntKind}{i:Int}(h0:0≤i)(h1:i<ln):a5W ln sz true (.agg l.toArray) (.int k i)=some (.agg ((l.drop (i.toNat*sz)).take sz).toArray):=by
 have:(List.take (i.toNat*sz+sz-i.toNat*sz) (List.drop (i.toNat*sz) l))=(l.drop (i.toNat*sz)).take sz:=by congr 1;omega
 simp[a5W,h0,h1,this]
theorem b8o{d:Nat}:bnd none d=some (d:Int):=(_root_.id rfl)
theorem b8p{k:IntKind}{i:Int}{d:Nat}:bnd (some (.int k i)) d=some i:=(_root_.id rfl)
theorem c0B{sz:Nat}{a:Option Addr}{len cap:Nat}{lo hi mx:Option Value}:a4W sz (.slice a len cap) lo hi mx=i7 (bnd lo 0) fun l=>i7 (bnd hi len) fun h=>i7 (bnd mx cap) fun m=>a1F a sz l h m cap:=(_root_.id rfl)
theorem c0A{n sz:Nat}{a:Addr}{lo hi mx:Option Value}:a1T n sz (.pointer (some a)) lo hi mx=i7 (bnd lo 0) fun l=>i7 (bnd hi n) fun h=>i7 (bnd mx n) fun m=>a1F (some a) sz l h m n:=(_root_.id rfl)
theorem b8D{a:Option Addr}{sz:Nat}{l h m cap:Int}(c0:0≤l)(c1:l≤h)(c2:h≤m)(c3:m≤cap):a1F a sz l h m cap=some (.slice (if m=l then a else a.map (·.add (l.toNat*sz))) (h-l).toNat (m-l).toNat):=by simp[a1F,c0,c1,c2,c3]
theorem c4X:((0:Nat):Int)=0:=(_root_.id rfl)
theorem b6p:bnd none 0=some 0:=(_root_.id rfl)
theorem c4Y{a:Option Addr}{sz:Nat}{h m cap:Int}(c1:0≤h)(c2:h≤m)(c3:m≤cap):a1F a sz 0 h m cap=some (.slice a h.toNat m.toNat):=by
 have e:(a.map fun x=>x.add 0)=a:=by cases a<;>simp[Addr.add]
 simp[a1F,c1,c2,c3,e]
theorem b8C{b off sz:Nat}{l h m cap:Int}(c0:0≤l)(c1:l≤h)(c2:h≤m)(c3:m≤cap)(hlt:l<m):a1F (some ⟨b,off,none⟩) sz l h m cap=some (.slice (some ⟨b,off+l.toNat*sz,none⟩) (h-l).toNat (m-l).toNat):=by
 simp[a1F,c0,c1,c2,c3,P9,show ¬(m=l) by omega]
theorem c1Q{a:Option Addr}{sz:Nat}{l h m cap:Int}(c0:0≤l)(c1:l=h)(c2:h=m)(c3:m≤cap):a1F a sz l h m cap=some (.slice a 0 0):=by
 subst c1 c2
 simp[a1F,c0,c3]
theorem b6r{l:List Value}:cellsOf (.agg l.toArray)=l:=by simp[cellsOf,Value.cells]
theorem b6s{k:IntKind}{n:Int}:cellsOf (.int k n)=[.int k n]:=(_root_.id rfl)
theorem b3e{b:Bool}:cellsOf (.bool b)=[.bool b]:=(_root_.id rfl)
theorem b6v{s:ByteArray}:cellsOf (.string s)=[.string s]:=(_root_.id rfl)
theorem b6u{a:Option Addr}:cellsOf (.pointer a)=[.pointer a]:=(_root_.id rfl)
theorem b8x{a:Option Addr}{n c:Nat}:cellsOf (.slice a n c)=[.slice a n c]:=(_root_.id rfl)
theorem b8w{f:Fn}{a b:Array Value}:cellsOf (.func f a b)=[.func f a b]:=(_root_.id rfl)
theorem b6t{a:Option Nat}:cellsOf (.map a)=[.map a]:=(_root_.id rfl)
theorem b8R{z:List Value}:a0s z []=some z:=(_root_.id rfl)
theorem b6F{z:List Value}{off size:Nat}{v:Value}{rest:List (Nat×Nat×Value)}:a0s z ((off,size,v)::rest)=if(cellsOf v).length=size∧off+size≤z.length then a0s (v5 z off (cellsOf v)) rest else none:=(_root_.id rfl)
theorem sN{c:List Value}{off:Nat}:v5 c off []=c:=(_root_.id rfl)
theorem sC{c:List Value}{off:Nat}{v:Value}{vs:List Value}:v5 c off (v::vs)=v5 (c.set off v) (off+1) vs:=(_root_.id rfl)
theorem c3p{z:List Value}:n8 z 0=[]:=(_root_.id rfl)
theorem c3q{z:List Value}:n8 z 1=z:=by simp[n8]
--results
theorem b7p:a2f ρ h []=some []:=(_root_.id rfl)
theorem b3T{r:a3E}{rs:List a3E}:a2f ρ h (r::rs)=i7 (b7o ρ h r) fun v=>i7 (a2f ρ h rs) fun vs=>some (v::vs):=(_root_.id rfl)
theorem c0m{t:Nat}:b7o ρ h (.tmp t)=some (ρ t):=(_root_.id rfl)
theorem c0l{t n:Nat}:b7o ρ h (.cell t n false)=rd1 h (ρ t):=(_root_.id rfl)
theorem c0k{t n:Nat}:b7o ρ h (.cell t n true)=i7 (rdA h (ρ t) n) fun cs=>some (.agg cs.toArray):=(_root_.id rfl)
theorem b2u{rs:List a3E}{R:Value→c9→Prop}:c0o rs R .normal ρ h=D7 (a2f ρ h rs) (fun vs=>R (a2K vs) h) ⟨⟩:=(_root_.id rfl)
theorem c0p{rs:List a3E}{R:Value→c9→Prop}:c0o rs R .ret ρ h=D7 (a2f ρ h rs) (fun vs=>R (a2K vs) h) ⟨⟩:=(_root_.id rfl)
theorem c2x{v:Value}:a2K [v]=v:=(_root_.id rfl)
theorem c2y{v u:Value}:a2K [v,u]= .tuple #[v,u]:=(_root_.id rfl)
theorem c2z{v u x:Value}:a2K [v,u,x]= .tuple #[v,u,x]:=(_root_.id rfl)
theorem c2A{v u x y:Value}:a2K [v,u,x,y]= .tuple #[v,u,x,y]:=(_root_.id rfl)
theorem c2w:a2K []= .tuple #[]:=(_root_.id rfl)
--effects
theorem eA{T:Nat}{z:List Value}:Eff.wp P ρ h K (.alloc T z)=K (.pointer (some ⟨h.size,0,none⟩)) (h.push (.cells z.toArray T (0,0))):=(_root_.id rfl)
theorem eB{T:Nat}{x:Opd}:Eff.wp P ρ h K (.box T x)=K (.pointer (some ⟨h.size,0,none⟩)) (h.push (.cells (cellsOf (ev ρ x)).toArray T (0,0))):=(_root_.id rfl)
theorem eS{T len:Nat}{z:List Value}{ps:List (Nat×Nat×Opd)}:Eff.wp P ρ h K (.bslice T len z ps)=D7 (a0s (n8 z len) (ps.map fun p=>(p.1,p.2.1,ev ρ p.2.2))) (fun cs=>
   K (.slice (some ⟨h.size,0,none⟩) len len) (h.push (.cells cs.toArray T (0,0)))) ⟨⟩:=(_root_.id rfl)
theorem c1Z{n:Nat}{a x:Opd}:Eff.wp P ρ h K (.store n a x)=P8 n (ev ρ a) (cellsOf (ev ρ x)) h K ⟨⟩ ⟨⟩:=(_root_.id rfl)
theorem b8L{T sz bytes:Nat}{z:List Value}{x y:Opd}:Eff.wp P ρ h K (.append T sz bytes z x y)=a6V T sz bytes z (ev ρ x) (ev ρ y) h K ⟨⟩ ⟨⟩:=(_root_.id rfl)
theorem c3S{sz:Nat}{x y:Opd}:Eff.wp P ρ h K (.copy sz x y)=b8B sz (ev ρ x) (ev ρ y) h K ⟨⟩ ⟨⟩:=(_root_.id rfl)
theorem c5a{T:Nat}{x:Opd}:Eff.wp P ρ h K (.s2b T x)=s2bT T (ev ρ x) h K ⟨⟩ ⟨⟩:=(_root_.id rfl)
theorem e_mk{T sz bytes:Nat}{z:List Value}{l c:Opd}:Eff.wp P ρ h K (.mkslice T sz bytes z l c)=mkT T bytes z (ev ρ l) (ev ρ c) h K ⟨⟩ ⟨⟩:=(_root_.id rfl)
def b3g(zero:List Value)(x:Value)(h:c9)(K:Value→c9→Prop)(_:Tag h)(_:Tag K):Prop:=a5i zero x h K
theorem c1Y{sz:Nat}{z:List Value}{x:Opd}:Eff.wp P ρ h K (.clear sz z x)=b3g z (ev ρ x) h K ⟨⟩ ⟨⟩:=(_root_.id rfl)
theorem c3R{f:FuncId}{args:List Opd}:Eff.wp P ρ h K (.call f args)=b1p P f (args.map (ev ρ)) h K ⟨⟩ ⟨⟩:=(_root_.id rfl)
theorem c1X{x:Opd}{args:List Opd}:Eff.wp P ρ h K (.callv x args)=a3I P (ev ρ x) (args.map (ev ρ)) h K ⟨⟩ ⟨⟩:=(_root_.id rfl)
theorem c4Z{o:Oper}:Eff.wp P ρ h K (.any o)=b6i P o ρ h K ⟨⟩ ⟨⟩ ⟨⟩:=(_root_.id rfl)
theorem a8O{f:FuncId}{a b:List Value}{args:List Value}{s:Tag h}{t:Tag K}(hok:a3T P f=true)(hc:d8 P f (a++args++b) h K):a3I P (.func (.func f) a.toArray b.toArray) args h K s t:=by
 simp only[a3I,a3J]
 exact⟨hok,by simpa using hc⟩
theorem cI{f:FuncId}{args:List Value}{s:Tag h}{t:Tag K}{R:Value→c9→Prop}(hc:d8 P f args h R)(hk:∀v h',R v h'→K v h'):b1p P f args h K s t:=hc.mono hk
--stores
def b1j(x:Option (List Value×Nat×(Nat×Nat)))(K:List Value→Nat→Nat×Nat→Prop)(_:Tag K):Prop:=match x with|some (c,e,f)=>K c e f|none=>False
theorem b3a{c:List Value}{e:Nat}{f:Nat×Nat}{K:List Value→Nat→Nat×Nat→Prop}{t:Tag K}:b1j (some (c,e,f)) K t=K c e f:=rfl
def c2P(off l n:Nat)(f:Nat×Nat):Prop:=off+l≤n∧(f.2≤f.1∨off+l≤f.1∨f.2≤off)
theorem b5x{off l n:Nat}(hl:off+l≤n):c2P off l n (0,0)=True:=by simp[c2P,hl]
theorem sT{n b off:Nat}{cs:List Value}{s:Tag h}{t:Tag K}:P8 n (.pointer (some ⟨b,off,none⟩)) cs h K s t=
  b1j (blk h b) (fun c e f=>(cs.length=n∧pC cs=true∧c2P off cs.length c.length f)∧K undef (h.setIfInBounds b (.cells (v5 c off cs).toArray e f))) ⟨⟩:=by
 simp only[P8,wrW,b1j,c2P]
 apply propext
 constructor
 ·rintro⟨h1,h2⟩
  split at h2
  ·rename_i c e f hb
   rw[hb]
   exact⟨⟨h1,h2.1.2.2,h2.1.1,h2.1.2.1⟩,h2.2⟩
  ·exact h2.elim
 ·intro h2
  split at h2
  ·rename_i c e f hb
   rw[hb]
   exact⟨h2.1.1,⟨h2.1.2.2.1,h2.1.2.2.2,h2.1.2.1⟩,h2.2⟩
  ·exact h2.elim
theorem b7e:pC []=true:=rfl
theorem a9x{k:IntKind}{n:Int}{vs:List Value}:pC (.int k n::vs)=pC vs:=by simp[pC,Value.oneCell']
theorem b3I{b:Bool}{vs:List Value}:pC (.bool b::vs)=pC vs:=by simp[pC,Value.oneCell']
theorem b7g{b:ByteArray}{vs:List Value}:pC (.string b::vs)=pC vs:=by simp[pC,Value.oneCell']
theorem b7f{a:Option Addr}{vs:List Value}:pC (.pointer a::vs)=pC vs:=by simp[pC,Value.oneCell']
theorem c0a{a:Option Addr}{n c:Nat}{vs:List Value}:pC (.slice a n c::vs)=pC vs:=by simp[pC,Value.oneCell']
theorem b7d{a:Option Nat}{vs:List Value}:pC (.map a::vs)=pC vs:=by simp[pC,Value.oneCell']
theorem b9Z{f:Fn}{a b:Array Value}{vs:List Value}:pC (.func f a b::vs)=pC vs:=by simp[pC,Value.oneCell']
--branches
theorem cD{p:Prop}{X Y:Prop}{s:Tag X}{t:Tag Y}(hx:p→X)(hy:¬p→Y):X6 (.bool (dcd p)) X Y s t:=by
 by_cases h:p
 ·rw[dT h];simp only[X6,a0r,if_true];exact hx h
 ·rw[dF h];simp only[X6,a0r,Bool.false_eq_true,if_false];exact hy h
theorem b1F{p:Prop}{X Y:Prop}{s:Tag X}{t:Tag Y}(hx:p→X)(hy:¬p→Y):a0N (dcd p) X Y s t:=by
 by_cases h:p
 ·rw[dT h];simp only[a0N,M6,if_true];exact hx h
 ·rw[dF h];simp only[a0N,M6,Bool.false_eq_true,if_false];exact hy h
end
--loops,cuts,regions
def iv:Value→Int
 | .int _ n=>n
 |_=>0
theorem c4c{k:IntKind}{n:Int}:iv (.int k n)=n:=(_root_.id rfl)
section
variable{P:Program}{Q:D6→Env→c9→Prop}{ρ:Env}{h:c9}
theorem lI{c:j6}{t1:Tag c}{t2:Tag Q}{t3:Tag ρ}{t4:Tag h}(I:Env→c9→Prop)(μ:Env→c9→Nat)(h0:I ρ h)
  (hr:∀ρ h (J:Env→c9→Prop),(∀ρ' h',I ρ' h'→μ ρ' h'<μ ρ h→J ρ' h')→I ρ h→mwp P c (V0 J Q) ρ h):a7B P c Q ρ h t1 t2 t3 t4:=
 ⟨I,μ,h0,fun ρ h hi=>hr ρ h _ (fun _ _ a b=>⟨a,b⟩) hi⟩
theorem eK{f:FuncId}{m:MFn}(hc:a1j P f=some m){args:List Value}(hl:args.length≤m.n){h0:c9}{R:Value→c9→Prop}
  (hk:∀K:Value→c9→Prop,(∀v h',R v h'→K v h')→mwp P m.code (c0o m.res K) (a0p args) h0):d8 P f args h0 R:=
 enter hc hl (hk R fun _ _ h=>h)
end
section
variable{h h':c9}
theorem C7{c:List Value}{e:Nat}{f:Nat×Nat}{b:Nat}(hb:b=h.size):blk (h.push (.cells c.toArray e f)) b=some (c,e,f):=by
 subst hb;simp[blk]
theorem G2{o:Obj}{b:Nat}(hb:b<h.size):blk (h.push o) b=blk h b:=by
 simp only[blk,Array.getElem?_push,if_neg (Nat.ne_of_lt hb)]
theorem L2{c:List Value}{e:Nat}{f:Nat×Nat}{b:Nat}(hb:b<h.size):blk (h.setIfInBounds b (.cells c.toArray e f)) b=some (c,e,f):=a4k hb
theorem a1C{o:Obj}{b b':Nat}(hb:b'≠b):blk (h.setIfInBounds b o) b'=blk h b':=by
 simp only[blk,Array.getElem?_setIfInBounds_ne (Ne.symm hb)]
structure Fr(h h':c9)(M:List Nat):Prop where
 size:h.size≤h'.size
 same:∀b,b<h.size→b∉M→h'[b]? =h[b]?
theorem Fr.refl(h:c9)(M:List Nat):Fr h h M:=⟨x9 _,fun _ _ _=>rfl⟩
theorem Fr.trans{a b c:c9}{M:List Nat}(x:Fr a b M)(y:Fr b c M):Fr a c M:=
 ⟨Z0 x.size y.size,fun i hi hm=>(y.same i (Nat.lt_of_lt_of_le hi x.size) hm).trans (x.same i hi hm)⟩
theorem Fr.mono{a b:c9}{M M':List Nat}(x:Fr a b M)(hm:∀i,i<a.size→i∈M→i∈M'):Fr a b M':=
 ⟨x.size,fun i hi hn=>x.same i hi (fun h=>hn (hm i hi h))⟩
theorem Fr.via{a b c:c9}{M M':List Nat}(y:Fr b c M')(x:Fr a b M)(hm:∀i,i<a.size→i∈M'→i∈M):Fr a c M:=
 ⟨Z0 x.size y.size,fun i hi hn=>(y.same i (Nat.lt_of_lt_of_le hi x.size) (fun h=>hn (hm i hi h))).trans (x.same i hi hn)⟩
theorem Fr.push{a b:c9}{M:List Nat}(x:Fr a b M)(o:Obj):Fr a (b.push o) M:=
 ⟨by have:=x.size;simp;omega,fun i hi hm=>by have:=x.size;rw[Array.getElem?_push,if_neg (by omega)];exact x.same i hi hm⟩
theorem Fr.set{a b:c9}{M:List Nat}(x:Fr a b M){k:Nat}(hk:k∈M∨a.size≤k)(o:Obj):Fr a (b.setIfInBounds k o) M:=
 ⟨by have:=x.size;simp;omega,fun i hi hm=>by
  rw[Array.getElem?_setIfInBounds_ne (by rintro rfl;rcases hk with h|h;exact hm h;omega)]
  exact x.same i hi hm⟩
theorem Fr.setM{a b:c9}{M:List Nat}{k:Nat}(hk:k∈M)(x:Fr a b M)(o:Obj):Fr a (b.setIfInBounds k o) M:=x.set (.inl hk) o
theorem Fr.setN{a b:c9}{M:List Nat}{k:Nat}(hk:a.size≤k)(x:Fr a b M)(o:Obj):Fr a (b.setIfInBounds k o) M:=x.set (.inr hk) o
theorem Fr.blk{M:List Nat}(x:Fr h h' M){b:Nat}(hb:b<h.size)(hm:b∉M):blk h' b=blk h b:=by
 simp only[MX.blk,x.same b hb hm]
theorem Fr.rdN{M:List Nat}(x:Fr h h' M){b off n:Nat}(hb:b<h.size)(hm:b∉M):rdN h' b off n=rdN h b off n:=by
 simp only[MX.rdN,x.blk hb hm]
theorem b0x{o:Obj}{b off:Nat}(hb:b<h.size):rd1 (h.push o) (.pointer (some ⟨b,off,none⟩))=rd1 h (.pointer (some ⟨b,off,none⟩)):=by
 simp only[rd1,rdA,rdN,G2 hb]
theorem b0z{o:Obj}{b off n:Nat}(hb:b<h.size):rdN (h.push o) b off n=rdN h b off n:=by simp only[rdN,G2 hb]
theorem b3L{o:Obj}{b b' off:Nat}(hb:b'≠b):rd1 (h.setIfInBounds b o) (.pointer (some ⟨b',off,none⟩))=rd1 h (.pointer (some ⟨b',off,none⟩)):=by
 simp only[rd1,rdA,rdN,a1C hb]
theorem b3N{o:Obj}{b b' off n:Nat}(hb:b'≠b):rdN (h.setIfInBounds b o) b' off n=rdN h b' off n:=by simp only[rdN,a1C hb]
theorem Fr.rd1{M:List Nat}(x:Fr h h' M){b off:Nat}(hb:b<h.size)(hm:b∉M):rd1 h' (.pointer (some ⟨b,off,none⟩))=rd1 h (.pointer (some ⟨b,off,none⟩)):=by
 simp only[MX.rd1,MX.rdA,x.rdN hb hm]
theorem c0e{b off n:Nat}:rdA h (.pointer (some ⟨b,off,none⟩)) n=rdN h b off n:=rfl
theorem v8{b off n:Nat}{c:List Value}{e:Nat}{f:Nat×Nat}(hb:blk h b=some (c,e,f))(hl:off+n≤c.length):rdN h b off n=some ((c.drop off).take n):=by
 simp only[rdN,hb,if_pos hl]
theorem j3{b off:Nat}{c:List Value}{e:Nat}{f:Nat×Nat}(hb:blk h b=some (c,e,f)):rd1 h (.pointer (some ⟨b,off,none⟩))=c[off]? :=by
 unfold rd1
 rw[c0e]
 unfold rdN
 rw[hb]
 simp only
 by_cases hl:off+1≤c.length
 ·rw[if_pos hl]
  have h1:c.drop off=c[off]::c.drop (off+1):=X8 (by omega)
  rw[h1,l_r (show off<c.length by omega)]
  rfl
 ·rw[if_neg hl,Y1 (by omega)]
theorem c0f{b off n:Nat}{cs:List Value}(hr:rdN h b off n=some cs):b<h.size:=by
 unfold rdN at hr
 split at hr
 ·rename_i hb;exact F5 hb
 ·cases hr
theorem c0g{b off n k m:Nat}{cs:List Value}(hr:rdN h b off n=some cs)(hk:k+m≤n):rdN h b (off+k) m=some ((cs.drop k).take m):=by
 unfold rdN at hr⊢
 split at hr
 ·rename_i c e f hb
  split at hr
  ·rename_i hl
   cases hr
   rw[if_pos (by omega)]
   congr 1
   rw[List.drop_take,List.drop_drop,List.take_take]
   congr 1
   omega
  ·cases hr
 ·cases hr
theorem rP{b off n:Nat}{cs:List Value}(hr:rdN h b off n=some cs)(k:Nat)(hk:k<n):rd1 h (.pointer (some ⟨b,off+k,none⟩))=cs[k]? :=by
 have h1:=c0g (k:=k) (m:=1) hr hk
 have hl:cs.length=n:=(a7U (w:={(default:World)with heap:=h}) hr).1
 unfold rd1
 rw[c0e,h1]
 have h2:cs.drop k=cs[k]'(by omega)::cs.drop (k+1):=X8 (by omega)
 rw[h2,l_r (show k<cs.length by omega)]
 rfl
theorem rP0{b off n:Nat}{cs:List Value}(hr:rdN h b off n=some cs)(hk:0<n):rd1 h (.pointer (some ⟨b,off,none⟩))=cs[0]? :=rP hr 0 hk
theorem b0w{c:List Value}{e:Nat}{f:Nat×Nat}{b off:Nat}(hb:b=h.size):rd1 (h.push (.cells c.toArray e f)) (.pointer (some ⟨b,off,none⟩))=c[off]? :=j3 (C7 hb)
theorem a4P{c:List Value}{e:Nat}{f:Nat×Nat}{b off n:Nat}(hb:b=h.size)(hl:off+n≤c.length):rdN (h.push (.cells c.toArray e f)) b off n=some ((c.drop off).take n):=v8 (C7 hb) hl
theorem b3K{c:List Value}{e:Nat}{f:Nat×Nat}{b off:Nat}(hb:b<h.size):rd1 (h.setIfInBounds b (.cells c.toArray e f)) (.pointer (some ⟨b,off,none⟩))=c[off]? :=j3 (L2 hb)
theorem b3M{c:List Value}{e:Nat}{f:Nat×Nat}{b off n:Nat}(hb:b<h.size)(hl:off+n≤c.length):rdN (h.setIfInBounds b (.cells c.toArray e f)) b off n=some ((c.drop off).take n):=v8 (L2 hb) hl
def Arr{α:Type}(enc:α→List Value)(sz:Nat)(h:c9)(A:Option Addr)(xs:List α):Prop:=
 ∀i (hi:i<xs.length),∃b off,A=some ⟨b,off,none⟩∧rdN h b (off+i*sz) sz=some (enc xs[i])
theorem Arr.nil{α:Type}(enc:α→List Value)(sz:Nat)(h:c9)(A:Option Addr):Arr enc sz h A []:=fun i hi=>absurd hi (by simp)
theorem Arr.keep{α:Type}{enc:α→List Value}{sz:Nat}{A:Option Addr}{xs:List α}(ha:Arr enc sz h A xs)(hs:∀b off,A=some ⟨b,off,none⟩→xs≠[]→blk h' b=blk h b):Arr enc sz h' A xs:=by
 intro i hi
 obtain⟨b,off,hA,hr⟩:=ha i hi
 refine⟨b,off,hA,?_⟩
 rw[←hr]
 simp only[rdN,hs b off hA (by rintro rfl;simp at hi)]
end
theorem u5{x:Int}(h0: -9223372036854775808≤x)(h1:x<9223372036854775808):IntKind.i64.wrap x=x:=IntWalk.i64_in _ (by omega)
theorem c3n{x:Int}(h0:0≤x)(h1:x<256):IntKind.u8.wrap x=x:=by
 simp only[IntKind.wrap,IntKind.signed,IntKind.bits]
 simp
 omega
theorem c1e{x:Int}(h0:0≤x)(h1:x<4294967296):IntKind.u32.wrap x=x:=by
 simp only[IntKind.wrap,IntKind.signed,IntKind.bits]
 simp
 omega
theorem b2Q{x:Int}(h0:0≤x)(h1:x<18446744073709551616):IntKind.u64.wrap x=x:=by
 simp only[IntKind.wrap,IntKind.signed,IntKind.bits]
 simp
 omega
attribute [go_sem ↓] b7D b7C c3d b9G c2r c2t b9C b9F b9D b9E c2s b2p c0d a5G b2o c0c b7j b6Z c2D c2E c2B c2C wp_p wp_r wp_e b4m ev_t ev_c b8f b8g b8h b8i b8j b8k c3k c1d b7E b4j c3e c4M c3g c4O c0S b4i c1a c0Y c0U c0T c0V c3h c1c c3f c3j c3i b7F c0Z c1b c0W c0X b7G b7H b7p b3T c0m c0l c0k b2u c0p c1Z b8L c3S c1Y c5a e_mk c3R c1X c4Z
attribute [go_sem] b3a b5x b7e a9x b3I b7g b7f c0a b7d b9Z C7 G2 L2 a1C b0w b0x b3K b3L a4P b0z b3M b3N List.drop_zero List.drop_succ_cons List.take_succ_cons List.take_zero List.take_nil List.drop_nil b3c b3d b3o b1E b3i b1s b4n b2M b2N c4c a9Z b0e b0b b4x b4y b0a b8m c1K c1E c1J c1I c1H c1G c1F b4z b0d b8E a8U dT dF c5b c2b c5d c5c c2c c5f c5e c5g c4J c4K b8A b7Z c4b c3Y c5i c5h c4W c5m c5l b8T b6G c4o c5o c2e c2f c3Z c4a c3U b6p b8o b8p c0B c0A c4X c4Y b8C c1Q b6r b6s b3e b6v b6u b8x b8w b6t b8R b6F sN sC c3p c3q c2w c2x c2y c2z c2A c0e u5 c3n c1e b2Q List.map_cons List.map_nil List.set_cons_zero List.set_cons_succ List.length_cons List.length_nil List.getElem?_cons_zero List.getElem?_cons_succ List.nil_append List.cons_append List.append_nil Array.size_push Array.size_setIfInBounds Option.map_some Option.map_none Option.isNone_none Option.isNone_some Int.toNat_natCast Int.toNat_sub Int.sub_zero Nat.zero_add Nat.add_zero decide_true decide_false Bool.not_true Bool.not_false Bool.true_and Bool.false_and Bool.and_true Bool.and_false Bool.or_true Bool.or_false Bool.true_or Bool.false_or and_self true_and and_true Bool.false_eq_true if_true if_false not_true_eq_false not_false_eq_true ite_true ite_false ne_eq
universe v
theorem Pc{A B:Prop}(a:A)(b:B):A∧B:=⟨a,b⟩
theorem Pd{A B C:Prop}(a:A)(b:B)(c:C):A∧B∧C:=⟨a,b,c⟩
theorem Pe{A B C D:Prop}(a:A)(b:B)(c:C)(d:D):A∧B∧C∧D:=⟨a,b,c,d⟩
theorem Pf{A B C D E:Prop}(a:A)(b:B)(c:C)(d:D)(e:E):A∧B∧C∧D∧E:=⟨a,b,c,d,e⟩
theorem Wa{G H:Prop}(x:H)(z:G=H:=by((try simp(disch:=first|omega|assumption|exact l_a rfl) only[go_sem,↓wBk,simprocAttr]);exact rfl)):G:=(z).mpr x
theorem Wb{A G H:Prop}(a:A)(x:H)(z:A→G=H:=by(intro a;(try simp(disch:=first|omega|assumption|exact l_a rfl) only[go_sem,↓wBk,simprocAttr,a]);exact rfl)):G:=(z a).mpr x
theorem Wc{A B G H:Prop}(a:A)(b:B)(x:H)(z:A→B→G=H:=by(intro a b;(try simp(disch:=first|omega|assumption|exact l_a rfl) only[go_sem,↓wBk,simprocAttr,a,b]);exact rfl)):G:=(z a b).mpr x
theorem Wd{A B C G H:Prop}(a:A)(b:B)(c:C)(x:H)(z:A→B→C→G=H:=by(intro a b c;(try simp(disch:=first|omega|assumption|exact l_a rfl) only[go_sem,↓wBk,simprocAttr,a,b,c]);exact rfl)):G:=(z a b c).mpr x
theorem We{A B C D G H:Prop}(a:A)(b:B)(c:C)(d:D)(x:H)(z:A→B→C→D→G=H:=by(intro a b c d;(try simp(disch:=first|omega|assumption|exact l_a rfl) only[go_sem,↓wBk,simprocAttr,a,b,c,d]);exact rfl)):G:=(z a b c d).mpr x
theorem Wf{A B C D E G H:Prop}(a:A)(b:B)(c:C)(d:D)(e:E)(x:H)(z:A→B→C→D→E→G=H:=by(intro a b c d e;(try simp(disch:=first|omega|assumption|exact l_a rfl) only[go_sem,↓wBk,simprocAttr,a,b,c,d,e]);exact rfl)):G:=(z a b c d e).mpr x
theorem Wg{A B C D E F G H:Prop}(a:A)(b:B)(c:C)(d:D)(e:E)(f:F)(x:H)(z:A→B→C→D→E→F→G=H:=by(intro a b c d e f;(try simp(disch:=first|omega|assumption|exact l_a rfl) only[go_sem,↓wBk,simprocAttr,a,b,c,d,e,f]);exact rfl)):G:=(z a b c d e f).mpr x
theorem Wh{A B C D E F I G H:Prop}(a:A)(b:B)(c:C)(d:D)(e:E)(f:F)(i:I)(x:H)(z:A→B→C→D→E→F→I→G=H:=by(intro a b c d e f i;(try simp(disch:=first|omega|assumption|exact l_a rfl) only[go_sem,↓wBk,simprocAttr,a,b,c,d,e,f,i]);exact rfl)):G:=(z a b c d e f i).mpr x
theorem Wi{A B C D E F I J G H:Prop}(a:A)(b:B)(c:C)(d:D)(e:E)(f:F)(i:I)(j:J)(x:H)(z:A→B→C→D→E→F→I→J→G=H:=by(intro a b c d e f i j;(try simp(disch:=first|omega|assumption|exact l_a rfl) only[go_sem,↓wBk,simprocAttr,a,b,c,d,e,f,i,j]);exact rfl)):G:=(z a b c d e f i j).mpr x
theorem Xa{G H:Prop}(x:H)(z:G=H:=by((try simp(disch:=first|omega|assumption|((repeat' (first|exact Fr.refl _ _|assumption|(refine Fr.via (by assumption) ?_ (by intro i hi hm;first|exact hm|exact l_l _ hm|exact absurd hm l_d|(simp only[l_e,l_y,l_d,or_false]at hm⊢;omega)))|refine Fr.push ?_ _|(refine Fr.setM ?_ ?_ _; · first|exact l_n|(simp only[l_e,true_or,or_true];done))|(refine Fr.setN ?_ ?_ _; · first|omega|(simp only[l_c,l_b];omega))));done)|(simp only[l_c,l_b,l_f,l_g,l_e,l_d,or_false,false_or,U9,not_or];done)|(simp only[l_c,l_b,l_f,l_g,l_e,l_d,or_false,false_or,not_or];omega)) only[go_sem,↓wBk,↓eA,↓eB,↓eS,sT,simprocAttr]);exact rfl)):G:=(z).mpr x
theorem Xb{A G H:Prop}(a:A)(x:H)(z:A→G=H:=by(intro a;(try simp(disch:=first|omega|assumption|((repeat' (first|exact Fr.refl _ _|assumption|(refine Fr.via (by assumption) ?_ (by intro i hi hm;first|exact hm|exact l_l _ hm|exact absurd hm l_d|(simp only[l_e,l_y,l_d,or_false]at hm⊢;omega)))|refine Fr.push ?_ _|(refine Fr.setM ?_ ?_ _; · first|exact l_n|(simp only[l_e,true_or,or_true];done))|(refine Fr.setN ?_ ?_ _; · first|omega|(simp only[l_c,l_b];omega))));done)|(simp only[l_c,l_b,l_f,l_g,l_e,l_d,or_false,false_or,U9,not_or];done)|(simp only[l_c,l_b,l_f,l_g,l_e,l_d,or_false,false_or,not_or];omega)) only[go_sem,↓wBk,↓eA,↓eB,↓eS,sT,simprocAttr,a]);exact rfl)):G:=(z a).mpr x
theorem Xc{A B G H:Prop}(a:A)(b:B)(x:H)(z:A→B→G=H:=by(intro a b;(try simp(disch:=first|omega|assumption|((repeat' (first|exact Fr.refl _ _|assumption|(refine Fr.via (by assumption) ?_ (by intro i hi hm;first|exact hm|exact l_l _ hm|exact absurd hm l_d|(simp only[l_e,l_y,l_d,or_false]at hm⊢;omega)))|refine Fr.push ?_ _|(refine Fr.setM ?_ ?_ _; · first|exact l_n|(simp only[l_e,true_or,or_true];done))|(refine Fr.setN ?_ ?_ _; · first|omega|(simp only[l_c,l_b];omega))));done)|(simp only[l_c,l_b,l_f,l_g,l_e,l_d,or_false,false_or,U9,not_or];done)|(simp only[l_c,l_b,l_f,l_g,l_e,l_d,or_false,false_or,not_or];omega)) only[go_sem,↓wBk,↓eA,↓eB,↓eS,sT,simprocAttr,a,b]);exact rfl)):G:=(z a b).mpr x
theorem Xd{A B C G H:Prop}(a:A)(b:B)(c:C)(x:H)(z:A→B→C→G=H:=by(intro a b c;(try simp(disch:=first|omega|assumption|((repeat' (first|exact Fr.refl _ _|assumption|(refine Fr.via (by assumption) ?_ (by intro i hi hm;first|exact hm|exact l_l _ hm|exact absurd hm l_d|(simp only[l_e,l_y,l_d,or_false]at hm⊢;omega)))|refine Fr.push ?_ _|(refine Fr.setM ?_ ?_ _; · first|exact l_n|(simp only[l_e,true_or,or_true];done))|(refine Fr.setN ?_ ?_ _; · first|omega|(simp only[l_c,l_b];omega))));done)|(simp only[l_c,l_b,l_f,l_g,l_e,l_d,or_false,false_or,U9,not_or];done)|(simp only[l_c,l_b,l_f,l_g,l_e,l_d,or_false,false_or,not_or];omega)) only[go_sem,↓wBk,↓eA,↓eB,↓eS,sT,simprocAttr,a,b,c]);exact rfl)):G:=(z a b c).mpr x
theorem Xe{A B C D G H:Prop}(a:A)(b:B)(c:C)(d:D)(x:H)(z:A→B→C→D→G=H:=by(intro a b c d;(try simp(disch:=first|omega|assumption|((repeat' (first|exact Fr.refl _ _|assumption|(refine Fr.via (by assumption) ?_ (by intro i hi hm;first|exact hm|exact l_l _ hm|exact absurd hm l_d|(simp only[l_e,l_y,l_d,or_false]at hm⊢;omega)))|refine Fr.push ?_ _|(refine Fr.setM ?_ ?_ _; · first|exact l_n|(simp only[l_e,true_or,or_true];done))|(refine Fr.setN ?_ ?_ _; · first|omega|(simp only[l_c,l_b];omega))));done)|(simp only[l_c,l_b,l_f,l_g,l_e,l_d,or_false,false_or,U9,not_or];done)|(simp only[l_c,l_b,l_f,l_g,l_e,l_d,or_false,false_or,not_or];omega)) only[go_sem,↓wBk,↓eA,↓eB,↓eS,sT,simprocAttr,a,b,c,d]);exact rfl)):G:=(z a b c d).mpr x
theorem Xf{A B C D E G H:Prop}(a:A)(b:B)(c:C)(d:D)(e:E)(x:H)(z:A→B→C→D→E→G=H:=by(intro a b c d e;(try simp(disch:=first|omega|assumption|((repeat' (first|exact Fr.refl _ _|assumption|(refine Fr.via (by assumption) ?_ (by intro i hi hm;first|exact hm|exact l_l _ hm|exact absurd hm l_d|(simp only[l_e,l_y,l_d,or_false]at hm⊢;omega)))|refine Fr.push ?_ _|(refine Fr.setM ?_ ?_ _; · first|exact l_n|(simp only[l_e,true_or,or_true];done))|(refine Fr.setN ?_ ?_ _; · first|omega|(simp only[l_c,l_b];omega))));done)|(simp only[l_c,l_b,l_f,l_g,l_e,l_d,or_false,false_or,U9,not_or];done)|(simp only[l_c,l_b,l_f,l_g,l_e,l_d,or_false,false_or,not_or];omega)) only[go_sem,↓wBk,↓eA,↓eB,↓eS,sT,simprocAttr,a,b,c,d,e]);exact rfl)):G:=(z a b c d e).mpr x
theorem Xi{A B C D E F I J G H:Prop}(a:A)(b:B)(c:C)(d:D)(e:E)(f:F)(i:I)(j:J)(x:H)(z:A→B→C→D→E→F→I→J→G=H:=by(intro a b c d e f i j;(try simp(disch:=first|omega|assumption|((repeat' (first|exact Fr.refl _ _|assumption|(refine Fr.via (by assumption) ?_ (by intro i hi hm;first|exact hm|exact l_l _ hm|exact absurd hm l_d|(simp only[l_e,l_y,l_d,or_false]at hm⊢;omega)))|refine Fr.push ?_ _|(refine Fr.setM ?_ ?_ _; · first|exact l_n|(simp only[l_e,true_or,or_true];done))|(refine Fr.setN ?_ ?_ _; · first|omega|(simp only[l_c,l_b];omega))));done)|(simp only[l_c,l_b,l_f,l_g,l_e,l_d,or_false,false_or,U9,not_or];done)|(simp only[l_c,l_b,l_f,l_g,l_e,l_d,or_false,false_or,not_or];omega)) only[go_sem,↓wBk,↓eA,↓eB,↓eS,sT,simprocAttr,a,b,c,d,e,f,i,j]);exact rfl)):G:=(z a b c d e f i j).mpr x
theorem iL{n:Nat}:Int.ofNat (no_index (OfNat.ofNat n))=OfNat.ofNat n:=rfl
theorem iN{n:Nat}:Int.negSucc (no_index (OfNat.ofNat n))= -(OfNat.ofNat n+1):=rfl
abbrev j4(P:Program)(f:FuncId){m:MFn}(h:a1j P f=some m:=by(conv=>lhs;reduce;(try dsimp only[iL,iN,Int.reduceAdd]))):{m:MFn//a1j P f=some m}:=⟨m,h⟩
theorem EN{P:Program}{f:FuncId}{m:MFn}{pf:a1j P f=some m}{i:{m:MFn//a1j P f=some m}}(_:i=j4 P f pf){args:List Value}{h0:c9}{R:Value→c9→Prop}
  (hk:∀K:Value→c9→Prop,(∀v h',R v h'→K v h')→mwp P m.code (c0o m.res K) (a0p args) h0) (hl:args.length≤m.n:=by exact l_a rfl):d8 P f args h0 R:=eK pf hl hk
attribute [go_sem] j4 Option.isSome_none Option.isSome_some Bool.false_beq Bool.true_beq Option.getD_some Option.getD_none
end
end Go.Proofs.YtjagmebglhbdkaaGreat.MX
