import Derived.Test.YtjagmebglhbdkaaGreatK01
import Derived.WalkKit
namespace Go.Proofs.YtjagmebglhbdkaaGreat.MX
open Go Go.Proofs
set_option linter.unusedSimpArgs false
set_option linter.unusedVariables false
structure Rel(N:Nat)(a:Act)(ρ:Env):Prop where
 size:a.tmps.size=N
 get:∀t,a.tmps.getD t undef=ρ t
theorem Rel.put{N:Nat}{a:Act}{ρ:Env}(h:Rel N a ρ)(d:Option Nat)(hd:b4J N d=true)(v:Value):Rel N (a.put d v) (N5 ρ d v):=by
 cases d with
 |none=>exact h
 |some d=>
  have hd':d<N:=by simpa[b4J]using hd
  refine⟨by simp[Act.put,h.size],fun t=> ?_⟩
  simp only[Act.put,N5,upd]
  by_cases e:t=d
  ·subst e
   simp[a2k,h.size,hd']
  ·have:=h.get t
   simp only[a2k]at this⊢
   rw[Array.getElem?_setIfInBounds_ne (fun h=>e h.symm)]
   simp[e,this]
theorem n6{N:Nat}{a:Act}{ρ:Env}(h:Rel N a ρ){x:Operand}{y:Opd}(hx:opd N x=some y):a.eval x=ev ρ y:=by
 cases x with
 |tmp t=>
  simp only[opd]at hx
  split at hx
  ·cases hx;exact h.get t
  ·cases hx
 |const v=>cases hx;rfl
 |global g=>cases hx;rfl
 |func f=>cases hx;rfl
theorem bV{α β:Type}{x:Option α}{K:α→Option β}{y:β}(h:i7 x K=some y):∃v,x=some v∧K v=some y:=by
 cases x with
 |none=>cases h
 |some v=>exact⟨v,rfl,h⟩
theorem H6{α:Type}{x:Option α}{K:α→Prop}(h:N7 x K):∃v,x=some v∧K v:=by
 cases x with
 |none=>exact h.elim
 |some v=>exact⟨v,rfl,h⟩
theorem M8{N:Nat}{a:Act}{ρ:Env}(h:Rel N a ρ):∀{xs:List Operand}{ys:List Opd},b2c N xs=some ys→xs.map a.eval=ys.map (ev ρ)
 | [],ys,hx=>by cases hx;rfl
 |x::xs,ys,hx=>by
  simp only[b2c]at hx
  obtain⟨y,h1,hx⟩:=bV hx
  obtain⟨r,h2,hx⟩:=bV hx
  cases hx
  simp[n6 h h1,M8 h h2]
theorem a3k{N:Nat}{a:Act}{ρ:Env}(h:Rel N a ρ){x:Option Operand}{y:Option Opd}(hx:b9U N x=some y):x.map a.eval=y.map (ev ρ):=by
 cases x with
 |none=>cases hx;rfl
 |some x=>
  simp only[b9U]at hx
  obtain⟨y',h1,hx⟩:=bV hx
  cases hx
  simp[n6 h h1]
def C4(P:Program)(o:Oper)(a:Act)(w:World)(K:Value→c9→Prop):Prop:=
 (∃v w',(execOp a.eval o).run P w= .ok (.value v) w'∧M4 w w'∧K v w'.heap)∨
 (∃w',(execOp a.eval o).run P w= .ok .skip w'∧M4 w w'∧K undef w'.heap)∨
 (∃f args w',(execOp a.eval o).run P w= .ok (.enter f args) w'∧M4 w w'∧d8 P f args.toList w'.heap K)
theorem M4.refl(w:World):M4 w w:=⟨rfl,rfl,rfl⟩
theorem M4.trans{a b c:World}(h:M4 a b)(k:M4 b c):M4 a c:=⟨k.1.trans h.1,k.2.1.trans h.2.1,k.2.2.trans h.2.2⟩
theorem C4.value{P:Program}{o:Oper}{a:Act}{w:World}{K:Value→c9→Prop}{v:Value}(h:(execOp a.eval o).run P w= .ok (.value v) w)(hk:K v w.heap):C4 P o a w K:=
 .inl ⟨v,w,h,.refl w,hk⟩
theorem C4.value'{P:Program}{o:Oper}{a:Act}{w:World}{K:Value→c9→Prop}{v:Value}(w':World)(h:(execOp a.eval o).run P w= .ok (.value v) w')(ha:M4 w w')(hk:K v w'.heap):C4 P o a w K:=
 .inl ⟨v,w',h,ha,hk⟩
theorem C4.wp{P:Program}{o:Oper}{a:Act}{w:World}{K:Value→c9→Prop}{next:Act→World→Prop}{Q:Exit→Act→World→Prop}
  (h:C4 P o a w K) (hn:∀v w',M4 w w'→K v w'.heap→next (a.put o.dst v) w'):o.wp P a w next Q:=by
 unfold Oper.wp
 rcases h with⟨v,w',hr,ha,hk⟩|⟨w',hr,ha,hk⟩|⟨f,args,w',hr,ha,hk⟩
 ·rw[hr];exact hn _ _ ha hk
 ·rw[hr];exact hn _ _ ha hk
 ·rw[hr]
  have:=hk w' rfl
  rw[Array.toArray_toList]at this
  refine this.mono ?_
  rintro e w'' ⟨v,rfl,ha2,hk2⟩
  exact hn _ _ (ha.trans ha2) hk2
theorem v4{P:Program}{t:TypeId}{n:Nat}(h:G6 P t=some n)(w:World):(sizeOf t).run P w= .ok n w:=by
 unfold G6 at h
 split at h
 ·rename_i i hi
  cases h
  simp[sizeOf,typeInfo,hi]
 ·cases h
theorem T2{P:Program}{t:TypeId}{z:List Value}(h:Y7 P t=some z)(w:World):∃v,(zeroValue t).run P w= .ok v w∧v.cells=z.toArray:=by
 unfold Y7 at h
 split at h
 ·rename_i i hi
  split at h
  ·rename_i v hv
   cases h
   exact⟨v,by simp[zeroValue,typeInfo,hi,hv],by simp[cellsOf]⟩
  ·cases h
 ·cases h
theorem l6{P:Program}{t:TypeId}{d:TypeDesc}(h:P.underlying t=some d)(w:World):(underlying t).run P w= .ok d w:=run_underlying h w
theorem V7{P:Program}{t:TypeId}{g:Bool}(h:x8 P t=some g)(w:World):(isAgg t).run P w= .ok g w:=by
 unfold x8 at h
 split at h
 ·rename_i fs hd;cases h;simp[isAgg,l6 hd]
 ·rename_i n e hd;cases h;simp[isAgg,l6 hd]
 ·rename_i d hs ha hd
  cases h
  simp only[isAgg,Sem.run_bind,l6 hd,Result.andThen_ok]
  cases d<;>simp_all
 ·cases h
theorem b1k{w:World}{b:Nat}{c:List Value}{e:Nat}{f:Nat×Nat}(h:blk w.heap b=some (c,e,f))(off:Nat):w.cell? ⟨b,off,none⟩=c[off]? :=by
 unfold blk at h
 split at h
 ·rename_i c' e' f' hb
  cases h
  simp[World.cell?,hb]
 ·cases h
theorem a7U{w:World}{b off n:Nat}{cs:List Value}(h:rdN w.heap b off n=some cs):
  cs.length=n∧∀j v,cs[j]? =some v→w.cell? ⟨b,off+j,none⟩=some v:=by
 unfold rdN at h
 split at h
 ·rename_i c e f hb
  split at h
  ·rename_i hle
   cases h
   refine⟨by simp;omega,fun j v hj=> ?_⟩
   rw[b1k hb]
   rw[List.getElem?_take]at hj
   split at hj
   ·rw[List.getElem?_drop]at hj;exact hj
   ·cases hj
  ·cases h
 ·cases h
theorem P9(b off j:Nat):(⟨b,off,none⟩:Addr).add j=⟨b,off+j,none⟩:=by
 unfold Addr.add
 split
 ·rename_i h;simp[h]
 ·rfl
theorem a4O{P:Program}{w:World}{v:Value}{n:Nat}{cs:List Value}(h:rdA w.heap v n=some cs):
  ∃b off,v= .pointer (some ⟨b,off,none⟩)∧cs.length=n∧(loadCells ⟨b,off,none⟩ n).run P w= .ok cs.toArray w∧∀j u,cs[j]? =some u→w.cell? ⟨b,off+j,none⟩=some u:=by
 unfold rdA at h
 split at h
 ·rename_i b off
  obtain⟨hl,hc⟩:=a7U h
  refine⟨b,off,rfl,hl,?_,hc⟩
  subst hl
  exact run_loadCells_list _ _ _ (fun j v hj=>by rw[P9];exact hc j v hj)
 ·cases h
theorem b2r{w:World}{v x:Value}(h:rd1 w.heap v=some x):∃b off,v= .pointer (some ⟨b,off,none⟩)∧w.cell? ⟨b,off,none⟩=some x:=by
 unfold rd1 at h
 split at h
 ·rename_i y hy
  cases h
  obtain⟨b,off,hv,_,_,hc⟩:=a4O (P:=default) hy
  exact⟨b,off,hv,by simpa using hc 0 x rfl⟩
 ·cases h
theorem J5(c:List Value)(off:Nat):∀vs:List Value,(v5 c off vs).length=c.length:=by
 intro vs
 induction vs generalizing c off with
 |nil=>rfl
 |cons v vs ih=>simp[v5,ih]
theorem a6e{w:World}{b off:Nat}{c:List Value}{e:Nat}{f:Nat×Nat}(hb:blk w.heap b=some (c,e,f))(v:Value):
  (w.setCell ⟨b,off,none⟩ v).heap=w.heap.setIfInBounds b (.cells (c.set off v).toArray e f):=by
 unfold blk at hb
 split at hb
 ·rename_i c' e' f' hb'
  cases hb
  apply Array.ext_getElem?
  intro i
  simp only[World.setCell,Array.getElem?_modify,Array.getElem?_setIfInBounds]
  by_cases hi:b=i
  ·subst hi
   have hlt:b<w.heap.size:=by
    rcases Nat.lt_or_ge b w.heap.size with h|h
    ·exact h
    ·rw[Array.getElem?_eq_none h]at hb';cases hb'
   have hg:w.heap[b]= .cells c' e f:=by
    rw[Array.getElem?_eq_getElem hlt]at hb'
    exact Option.some.inj hb'
   simp[hlt,hg,←List.setIfInBounds_toArray]
  ·simp[hi]
 ·cases hb
theorem a4k{h:c9}{b:Nat}{c:List Value}{e:Nat}{f:Nat×Nat}(hlt:b<h.size):blk (h.setIfInBounds b (.cells c.toArray e f)) b=some (c,e,f):=by
 simp[blk,hlt]
theorem F5{h:c9}{b:Nat}{x:List Value×Nat×(Nat×Nat)}(hb:blk h b=some x):b<h.size:=by
 rcases Nat.lt_or_ge b h.size with h'|h'
 ·exact h'
 ·simp[blk,Array.getElem?_eq_none h']at hb
theorem b2y(h:c9)(b:Nat)(x y:Obj):(h.setIfInBounds b x).setIfInBounds b y=h.setIfInBounds b y:=by
 apply Array.ext_getElem?
 intro i
 simp only[Array.getElem?_setIfInBounds]
 by_cases hi:b=i<;>simp[hi]
theorem a2U{P:Program}{b off e:Nat}{f:Nat×Nat}:∀(vs:List Value) (i:Nat) (w:World) (c:List Value),
  blk w.heap b=some (c,e,f)→off+i+vs.length≤c.length→(f.2≤f.1∨off+i+vs.length≤f.1∨f.2≤off+i)→pC vs=true→
  ∃w',(storeCells ⟨b,off,none⟩ vs i).run P w= .ok () w'∧M4 w w'∧w'.heap=w.heap.setIfInBounds b (.cells (v5 c (off+i) vs).toArray e f)
 | [],i,w,c,hb,_,_,_=>by
  refine⟨w,rfl,.refl w,?_⟩
  apply Array.ext_getElem?
  intro j
  simp only[Array.getElem?_setIfInBounds,v5]
  have hlt:=F5 hb
  by_cases hj:b=j
  ·subst hj
   unfold blk at hb
   split at hb
   ·rename_i c' e' f' hb'
    cases hb
    have hg:w.heap[b]= .cells c' e f:=by
     rw[Array.getElem?_eq_getElem hlt]at hb'
     exact Option.some.inj hb'
    simp[hlt,hg]
   ·cases hb
  ·simp[hj]
 |v::vs,i,w,c,hb,hle,hf,hp=>by
  simp only[pC,a1P]at hp
  simp only[l_f]at hle hf
  have hcell:w.cell? ⟨b,off+i,none⟩=c[off+i]? :=b1k hb _
  have hsome:c[off+i]? =some (c[off+i]'(by omega)):=l_r (by omega)
  have hfr:w.frozen? ⟨b,off+i,none⟩=false:=by
   unfold blk at hb
   split at hb
   ·rename_i c' e' f' hb'
    cases hb
    simp only[World.frozen?,hb']
    simp only[Bool.and_eq_false_iff,decide_eq_false_iff_not]
    omega
   ·cases hb
  obtain⟨w',hr,ha,hh⟩:=a2U (P:=P) (off:=off) (e:=e) (f:=f) vs (i+1) (w.setCell ⟨b,off+i,none⟩ v) (c.set (off+i) v)
   (by rw[a6e hb];exact a4k (F5 hb)) (by simp;omega) (by omega) hp.2
  refine⟨w',?_,ha,?_⟩
  ·simp only[storeCells,P9,Sem.run_bind]
   rw[run_store P w _ v .plain hp.1,hcell,hsome]
   simp only[hfr,Bool.false_eq_true,if_false,Result.andThen_ok]
   exact hr
  ·rw[hh,a6e hb,b2y]
   simp[v5,Nat.add_assoc]
theorem a6H{P:Program}{w:World}{v:Value}{cs:List Value}{K:c9→Prop}(h:wrW w.heap v cs K):
  ∃b off w',v= .pointer (some ⟨b,off,none⟩)∧(storeCells ⟨b,off,none⟩ cs).run P w= .ok () w'∧M4 w w'∧K w'.heap:=by
 unfold wrW at h
 split at h
 ·rename_i b off
  split at h
  ·rename_i c e f hb
   obtain⟨⟨h1,h2,h3⟩,hk⟩:=h
   obtain⟨w',hr,ha,hh⟩:=a2U (P:=P) (off:=off) cs 0 w c hb (by simpa using h1) (by simpa using h2) h3
   exact⟨b,off,w',rfl,hr,ha,by rw[hh];simpa using hk⟩
  ·exact h.elim
 ·exact h.elim
section
variable{P:Program}{N:Nat}{a:Act}{ρ:Env}{w:World}{K:Value→c9→Prop}
theorem u9{o:Oper}{v:Option Value}(hk:N7 v fun v=>K v w.heap)(hr:∀x,v=some x→(execOp a.eval o).run P w= .ok (.value x) w):C4 P o a w K:=by
 obtain⟨x,hx,hk⟩:=H6 hk
 exact C4.value (hr x hx) hk
theorem b5q{c x y v:Value}(h:b2h c x y=some v):((do pure (.value (if←asBool c then x else y)):Sem Next)).run P w= .ok (.value v) w:=by
 unfold b2h at h
 split at h
 ·cases h;simp[asBool]
 ·cases h
theorem b9J{o:Oper}{x:Operand}(ho:o.op= .nilCheck x){v:Value}(h:b9I (a.eval x)=some v):(execOp a.eval o).run P w= .ok (.value v) w:=by
 unfold b9I at h
 simp only[execOp,ho]
 split at h<;>first|(cases h;done)|skip
 all_goals(rename_i hx;cases h;rw[hx];rfl)
theorem b6Q{op:BinOp}{k:IntKind}{x y:Int}{v:Value}(h:L4 op k x y=some v):
  (match op with
  | .add| .sub| .mul=>Op.intArith op k x y
  | .quo| .rem=>Op.intDiv op k x y
  | .and| .or| .xor| .andNot=>Op.intBits op k x y
  |_=>Op.intCmp op x y).run P w= .ok v w:=by
 unfold L4 at h
 split at h<;>first|(cases h;done)|(cases h;simp[Op.intArith,Op.intBits,Op.intCmp];done)|skip
 all_goals(split at h<;>first|(cases h;done)|skip)
 all_goals(cases h;rename_i hb;simp[Op.intDiv,hb])
theorem c1D{op:BinOp}{T:TypeId}{x y v:Value}(h:C0 op x y=some v):(binOp op T x y).run P w= .ok v w:=by
 unfold C0 at h
 split at h
 ·rename_i k p k' q
  split at h
  ·split at h
   ·cases h
   ·rename_i hq;cases h;simp[binOp,Op.shift,hq]
  ·split at h
   ·cases h
   ·rename_i hq;cases h;simp[binOp,Op.shift,hq]
  ·rename_i h1 h2
   split at h
   ·rename_i hk
    subst hk
    have:=b6Q (P:=P) (w:=w) h
    unfold binOp
    cases op<;>first|(simp at h1;done)|(simp at h2;done)|(simp only[ne_eq,c4e,if_false];exact this)
   ·cases h
 ·rename_i p q
  split at h
  ·cases h;simp[binOp,Op.stringOp]
  ·cases h;simp[binOp,Op.stringOp]
  ·cases h
 ·cases h
theorem b1y{op:BinOp}{T:TypeId}{x y:Operand}{k k':IntKind}{p q:Int}:(eqGuard op T x y (.int k p) (.int k' q)).run P w= .ok () w:=by
 unfold eqGuard
 split<;>simp
theorem b1z{op:BinOp}{T:TypeId}{x y:Operand}{p q:ByteArray}:(eqGuard op T x y (.string p) (.string q)).run P w= .ok () w:=by
 unfold eqGuard
 split<;>simp
theorem b0c{o:Oper}{op:BinOp}{T yT:TypeId}{x y:Operand}(ho:o.op= .binOp op T x y yT){v:Value}(h:C0 op (a.eval x) (a.eval y)=some v):
  (execOp a.eval o).run P w= .ok (.value v) w:=by
 simp only[execOp,ho]
 have h2:=c1D (P:=P) (w:=w) (T:=T) h
 unfold C0 at h
 split at h
 ·rename_i hx hy
  rw[hx,hy]at h2⊢
  simp[b1y,h2]
 ·rename_i hx hy
  rw[hx,hy]at h2⊢
  simp[b1z,h2]
 ·cases h
theorem b1x{op:BinOp}{T:TypeId}{x y:Operand}{k:EK}{u v:Value}{b:Bool}(h:eqV k u v=some b):(eqGuard op T x y u v).run P w= .ok () w:=by
 unfold eqV at h
 unfold eqGuard
 split at h<;>first|(cases h;done)|(split<;>simp)
def b8N:EK→TypeDesc→Bool
 | .b,.bool=>true
 | .p,.pointer _=>true
 | .s,.slice _=>true
 | .m,.map _ _=>true
 | .f,.func _ _ _=>true
 |_,_=>false
theorem b3n{T:TypeId}{k:EK}{u v:Value}{b:Bool}(h:eqV k u v=some b){d:TypeDesc}(hu:P.underlying T=some d)(hd:b8N k d=true)(n:Nat):
  (Op.equalIn (n+1) T u v).run P w= .ok b w:=by
 unfold eqV at h
 unfold Op.equalIn
 split at h<;>first|(cases h;done)|skip
 all_goals
  cases h
  cases d<;>first|(cases hd;done)|(simp[l6 hu];done)
theorem b8P{T:TypeId}{k:EK}{u v:Value}{b:Bool}(h:eqV k u v=some b){d:TypeDesc}(hu:P.underlying T=some d)(hd:b8N k d=true):
  (Op.equal T u v).run P w= .ok b w:=b3n h hu hd 9999
theorem b4N{o:Oper}{op:BinOp}{T yT:TypeId}{x y:Operand}(ho:o.op= .binOp op T x y yT){k:EK}{d:TypeDesc}(hu:P.underlying T=some d)(hd:b8N k d=true)
  {neg:Bool} (hop:op=if neg then .neq else .eql) {v:Value} (h:i7 (eqV k (a.eval x) (a.eval y)) (fun b=>some (Value.bool (if neg then !b else b)))=some v):
  (execOp a.eval o).run P w= .ok (.value v) w:=by
 obtain⟨b,hb,hv⟩:=bV h
 cases hv
 have he:=b8P (P:=P) (w:=w) hb hu hd
 have hg:=b1x (P:=P) (w:=w) (op:=op) (T:=T) (x:=x) (y:=y) hb
 simp only[execOp,ho,Sem.run_bind,hg,Result.andThen_ok]
 subst hop
 generalize a.eval x=p at*
 generalize a.eval y=q at*
 unfold eqV at hb
 cases neg
 all_goals split at hb<;>first|(cases hb;done)|(simp[binOp,he])
theorem c3y{o:Oper}{op:UnOp}{T:TypeId}{x:Operand}(ho:o.op= .unOp op T x){v:Value}(h:unV op (a.eval x)=some v):
  (execOp a.eval o).run P w= .ok (.value v) w:=by
 simp only[execOp,ho]
 unfold unV at h
 split at h
 ·rename_i hx;rw[hx];cases h;simp[Op.unary,Op.intArith]
 ·rename_i hx;rw[hx];simp only[L4]at h;cases h;simp[Op.unary,Op.intBits]
 ·rename_i hx;rw[hx];cases h;simp[Op.unary]
 ·cases h
theorem a4v{o:Oper}{T:TypeId}{x:Operand}{f:Nat}(ho:o.op= .fieldAddr T x f){fs:Array Field}(hu:P.underlying T=some (.struct fs)){fd:Field}(hf:fs.toList[f]? =some fd)
  {sz:Nat} (hs:G6 P fd.type=some sz) (h0:sz≠0) {v:Value} (h:a2X (a.eval x) fd.offset=some v):(execOp a.eval o).run P w= .ok (.value v) w:=by
 unfold a2X at h
 split at h
 ·rename_i ad hx
  cases h
  have hf':fs[f]? =some fd:=by rw[←a5u];exact hf
  simp[execOp,ho,Instr.fieldAt,l6 hu,hf',hx,Instr.sureAddr,fieldPlace,v4 hs,h0]
 ·cases h
theorem b4U{o:Oper}{T e:TypeId}{x i:Operand}(ho:o.op= .indexAddr T x i)(hu:P.underlying T=some (.slice e)){sz:Nat}(hs:G6 P e=some sz)
  {v:Value} (h:a9f sz (a.eval x) (a.eval i)=some v):(execOp a.eval o).run P w= .ok (.value v) w:=by
 unfold a9f at h
 split at h
 ·rename_i ad len c k n hx hi
  split at h
  ·rename_i hr
   cases h
   simp[execOp,ho,Instr.indexAt,hx,hi,asIntOf,l6 hu,hr,v4 hs]
  ·cases h
 ·cases h
theorem b4S{o:Oper}{T e n:Nat}{x i:Operand}(ho:o.op= .indexAddr T x i)(hu:P.underlying T=some (.array n e)){sz:Nat}(hs:G6 P e=some sz)
  {v:Value} (h:a9e n sz (a.eval x) (a.eval i)=some v):(execOp a.eval o).run P w= .ok (.value v) w:=by
 unfold a9e at h
 split at h
 ·rename_i ad k q hx hi
  split at h
  ·rename_i hr
   cases h
   simp[execOp,ho,Instr.indexAt,hx,hi,asIntOf,l6 hu,hr,v4 hs,Instr.sureAddr]
  ·cases h
 ·cases h
theorem a1f{x:Value}{i:Int}{y:Nat}{c:BoundsCode}(hx:∃k,x= .int k i)(h0:0≤i)(h1:i≤y):(Instr.sliceBound x y c).run P w= .ok i.toNat w:=by
 obtain⟨k,rfl⟩:=hx
 simp[Instr.sliceBound,asIntOf,h0,h1]
theorem a0d{x:Option Value}{d:Nat}{i:Int}(h:bnd x d=some i):(x=none∧i=d)∨∃k,x=some (.int k i):=by
 unfold bnd at h
 split at h
 ·cases h;exact .inl ⟨rfl,rfl⟩
 ·cases h;exact .inr ⟨_,rfl⟩
 ·cases h
theorem a2Y{isS:Bool}{len cap:Nat}{lo hi mx:Option Value}{l h m:Int}(hl:bnd lo 0=some l)(hh:bnd hi len=some h)(hm:bnd mx cap=some m)
  (hc:0≤l∧l≤h∧h≤m∧m≤cap) (hmh:mx.isSome=true→hi.isSome=true):(Instr.sliceBounds isS len cap lo hi mx).run P w= .ok (l.toNat,h.toNat,m.toNat) w:=by
 obtain⟨c0,c1,c2,c3⟩:=hc
 rcases a0d hm with⟨rfl,rfl⟩|⟨k3,rfl⟩
 ·rcases a0d hh with⟨rfl,rfl⟩|⟨k2,rfl⟩
  ·rcases a0d hl with⟨rfl,rfl⟩|⟨k1,rfl⟩
   ·simp[Instr.sliceBounds]
   ·simp[Instr.sliceBounds,a1f ⟨k1,rfl⟩ c0 c1]
  ·have b2:∀c,(Instr.sliceBound (Value.int k2 h) cap c).run P w= .ok h.toNat w:=fun c=>a1f ⟨k2,rfl⟩ (by omega) (by omega)
   rcases a0d hl with⟨rfl,rfl⟩|⟨k1,rfl⟩
   ·simp[Instr.sliceBounds,b2]
   ·have b1:∀c,(Instr.sliceBound (Value.int k1 l) h.toNat c).run P w= .ok l.toNat w:=fun c=>a1f ⟨k1,rfl⟩ (by omega) (by omega)
    simp[Instr.sliceBounds,b2,b1]
 ·rcases a0d hh with⟨rfl,rfl⟩|⟨k2,rfl⟩
  ·simp at hmh
  ·have b3:∀c,(Instr.sliceBound (Value.int k3 m) cap c).run P w= .ok m.toNat w:=fun c=>a1f ⟨k3,rfl⟩ (by omega) (by omega)
   have b2:∀c,(Instr.sliceBound (Value.int k2 h) m.toNat c).run P w= .ok h.toNat w:=fun c=>a1f ⟨k2,rfl⟩ (by omega) (by omega)
   rcases a0d hl with⟨rfl,rfl⟩|⟨k1,rfl⟩
   ·simp[Instr.sliceBounds,b3,b2]
   ·have b1:∀c,(Instr.sliceBound (Value.int k1 l) h.toNat c).run P w= .ok l.toNat w:=fun c=>a1f ⟨k1,rfl⟩ (by omega) (by omega)
    simp[Instr.sliceBounds,b3,b2,b1]
end
section
variable{P:Program}{N:Nat}{a:Act}{ρ:Env}{w:World}{K:Value→c9→Prop}
theorem a5k{ad:Option Addr}{sz:Nat}{l h m cap:Int}{v:Value}(hv:a1F ad sz l h m cap=some v):
  (0≤l∧l≤h∧h≤m∧m≤cap)∧v= .slice (if m.toNat=l.toNat then ad else ad.map (·.add (l.toNat*sz))) (h.toNat-l.toNat) (m.toNat-l.toNat):=by
 unfold a1F at hv
 split at hv
 ·rename_i hc
  refine⟨hc,?_⟩
  cases hv
  have e1:(m=l)=(m.toNat=l.toNat):=by apply propext;omega
  have e2:(h-l).toNat=h.toNat-l.toNat:=by omega
  have e3:(m-l).toNat=m.toNat-l.toNat:=by omega
  simp only[e1,e2,e3]
 ·cases hv
theorem b4G{o:Oper}{T e:TypeId}{x:Operand}{lo hi mx:Option Operand}(ho:o.op= .slice T x lo hi mx)(hu:P.underlying T=some (.slice e)){sz:Nat}(hs:G6 P e=some sz)
  (hmh:(mx.isSome&&hi.isNone)=false) {v:Value} (h:a4W sz (a.eval x) (lo.map a.eval) (hi.map a.eval) (mx.map a.eval)=some v):(execOp a.eval o).run P w= .ok (.value v) w:=by
 unfold a4W at h
 split at h
 ·rename_i ad len cap hx
  obtain⟨l,hl,h⟩:=bV h
  obtain⟨hh,hhh,h⟩:=bV h
  obtain⟨m,hm,h⟩:=bV h
  obtain⟨hc,rfl⟩:=a5k h
  have hb:=a2Y (P:=P) (w:=w) (isS:=true) hl hhh hm hc (by cases mx<;>cases hi<;>simp_all)
  simp[execOp,ho,Instr.sliceAt,l6 hu,hx,Instr.slice,hb,v4 hs]
 ·cases h
theorem b4E{o:Oper}{T e n:Nat}{x:Operand}{lo hi mx:Option Operand}(ho:o.op= .slice T x lo hi mx)(hu:P.underlying T=some (.array n e)){sz:Nat}(hs:G6 P e=some sz)
  (hmh:(mx.isSome&&hi.isNone)=false) {v:Value} (h:a1T n sz (a.eval x) (lo.map a.eval) (hi.map a.eval) (mx.map a.eval)=some v):(execOp a.eval o).run P w= .ok (.value v) w:=by
 unfold a1T at h
 split at h
 ·rename_i ad hx
  obtain⟨l,hl,h⟩:=bV h
  obtain⟨hh,hhh,h⟩:=bV h
  obtain⟨m,hm,h⟩:=bV h
  obtain⟨hc,rfl⟩:=a5k h
  have hb:=a2Y (P:=P) (w:=w) (isS:=false) hl hhh hm hc (by cases mx<;>cases hi<;>simp_all)
  simp only[execOp,ho,Instr.sliceAt,Sem.run_bind,l6 hu,hx,Result.andThen_ok,hb,v4 hs,Instr.sureAddr,Sem.run_pure]
  split<;>simp
 ·cases h
theorem b4F{o:Oper}{T pa e n:Nat}{x:Operand}{lo hi mx:Option Operand}(ho:o.op= .slice T x lo hi mx)(hu':P.underlying T=some (.pointer pa))(hu:P.underlying pa=some (.array n e)){sz:Nat}(hs:G6 P e=some sz)
  (hmh:(mx.isSome&&hi.isNone)=false) {v:Value} (h:a1T n sz (a.eval x) (lo.map a.eval) (hi.map a.eval) (mx.map a.eval)=some v):(execOp a.eval o).run P w= .ok (.value v) w:=by
 unfold a1T at h
 split at h
 ·rename_i ad hx
  obtain⟨l,hl,h⟩:=bV h
  obtain⟨hh,hhh,h⟩:=bV h
  obtain⟨m,hm,h⟩:=bV h
  obtain⟨hc,rfl⟩:=a5k h
  have hb:=a2Y (P:=P) (w:=w) (isS:=false) hl hhh hm hc (by cases mx<;>cases hi<;>simp_all)
  simp only[execOp,ho,Instr.sliceAt,Instr.slice,Sem.run_bind,l6 hu',l6 hu,hx,Result.andThen_ok,hb,v4 hs,asAddr,Sem.run_pure]
  split<;>simp
 ·cases h
theorem b4H{o:Oper}{T:TypeId}{x:Operand}{lo hi:Option Operand}(ho:o.op= .slice T x lo hi none)(hu:P.underlying T=some .string)
  {v:Value} (h:a6E (a.eval x) (lo.map a.eval) (hi.map a.eval)=some v):(execOp a.eval o).run P w= .ok (.value v) w:=by
 unfold a6E at h
 split at h
 ·rename_i s hx
  obtain⟨l,hl,h⟩:=bV h
  obtain⟨hh,hhh,h⟩:=bV h
  split at h
  ·rename_i hc
   cases h
   have hb:=a2Y (P:=P) (w:=w) (isS:=false) (mx:=none) (cap:=s.size) hl hhh rfl (by omega) (by simp)
   simp[execOp,ho,Instr.sliceAt,l6 hu,hx,Instr.slice,hb]
  ·cases h
 ·cases h
theorem b4R{o:Oper}{f:Fn}{fi ca:Array Operand}(ho:o.op= .makeFunc f fi ca){xs ys:List Value}(hx:fi.toList.map a.eval=xs)(hy:ca.toList.map a.eval=ys):
  (execOp a.eval o).run P w= .ok (.value (.func f xs.toArray ys.toArray)) w:=by
 subst hx;subst hy
 simp[execOp,ho,Instr.makeFunc,←Array.toList_map]
theorem b4O{o:Oper}{x:Operand}{i:Nat}(ho:o.op= .extract x i){v:Value}(h:a8X (a.eval x) i=some v):(execOp a.eval o).run P w= .ok (.value v) w:=by
 unfold a8X at h
 split at h
 ·rename_i vs hx
  simp[execOp,ho,Instr.extract,hx,h]
 ·cases h
theorem a7L{T n:Nat}{cs:Array Value}{off:Nat}(hg:x8 P T=some true)(hs:G6 P T=some n):(part T cs off).run P w= .ok (.agg (cs.extract off (off+n))) w:=by
 simp[part,V7 hg,v4 hs]
theorem a7M{T:Nat}{cs:Array Value}{off:Nat}{v:Value}(hg:x8 P T=some false)(hv:cs[off]? =some v):(part T cs off).run P w= .ok v w:=by
 simp[part,V7 hg,hv]
theorem b1A{o:Oper}{T:TypeId}{x:Operand}{f:Nat}(ho:o.op= .field T x f){fs:Array Field}(hu:P.underlying T=some (.struct fs)){fd:Field}(hf:fs.toList[f]? =some fd)
  {sz:Nat} (hs:G6 P fd.type=some sz) {g:Bool} (hg:x8 P fd.type=some g) {v:Value} (h:a2y fd.offset sz g (a.eval x)=some v):(execOp a.eval o).run P w= .ok (.value v) w:=by
 unfold a2y at h
 have hf':fs[f]? =some fd:=by rw[←a5u];exact hf
 split at h
 ·rename_i cs hx
  cases g with
  |true=>simp at h;subst h;simp[execOp,ho,Instr.field,l6 hu,hf',hx,asAgg,a7L hg hs]
  |false=>simp at h;simp[execOp,ho,Instr.field,l6 hu,hf',hx,asAgg,a7M hg h]
 ·cases h
theorem b4T{o:Oper}{T e n:Nat}{x i:Operand}(ho:o.op= .index T x i)(hu:P.underlying T=some (.array n e)){sz:Nat}(hs:G6 P e=some sz){g:Bool}(hg:x8 P e=some g)
  {v:Value} (h:a5W n sz g (a.eval x) (a.eval i)=some v):(execOp a.eval o).run P w= .ok (.value v) w:=by
 unfold a5W at h
 split at h
 ·rename_i cs k q hx hi
  split at h
  ·rename_i hr
   cases g with
   |true=>simp at h;subst h;simp[execOp,ho,Instr.index,l6 hu,hx,hi,asIntOf,hr,v4 hs,a7L hg hs]
   |false=>simp at h;simp[execOp,ho,Instr.index,l6 hu,hx,hi,asIntOf,hr,v4 hs,a7M hg h]
  ·cases h
 ·cases h
theorem b4V{o:Oper}{T:TypeId}{x i:Operand}(ho:o.op= .index T x i)(hu:P.underlying T=some .string)
  {v:Value} (h:a7r (a.eval x) (a.eval i)=some v):(execOp a.eval o).run P w= .ok (.value v) w:=by
 unfold a7r at h
 split at h
 ·rename_i s k q hx hi
  split at h
  ·rename_i hr
   cases h
   have hlt:q.toNat<s.size:=by omega
   have:s[q.toNat]? =some (s[q.toNat]'hlt):=by simp[hlt]
   simp[execOp,ho,Instr.index,l6 hu,hx,hi,asIntOf,hr.1,this]
  ·cases h
 ·cases h
theorem b4D{o:Oper}{s d:TypeId}{x:Operand}(ho:o.op= .convert s d x){k k':IntKind}(h1:P.underlying s=some (.int k'))(h2:P.underlying d=some (.int k)){v:Value}(h:b1t k (a.eval x)=some v):
  (execOp a.eval o).run P w= .ok (.value v) w:=by
 unfold b1t at h
 split at h
 ·rename_i hx;cases h;simp[execOp,ho,convert,l6 h1,l6 h2,hx,Conv.intToInt]
 ·cases h
theorem b1R{o:Oper}{T:TypeId}{x:Operand}(ho:o.op= .load T x)(hg:x8 P T=some false){v:Value}(h:rd1 w.heap (a.eval x)=some v):
  (execOp a.eval o).run P w= .ok (.value v) w:=by
 obtain⟨b,off,hv,hc⟩:=b2r h
 simp[execOp,ho,Instr.loadAt,hv,Instr.sureAddr,loadVar,V7 hg,hc]
theorem b1S{o:Oper}{T:TypeId}{x:Operand}(ho:o.op= .load T x)(hg:x8 P T=some true){n:Nat}(hs:G6 P T=some n){v:Value}
  (h:i7 (rdA w.heap (a.eval x) n) (fun cs=>some (Value.agg cs.toArray))=some v):(execOp a.eval o).run P w= .ok (.value v) w:=by
 obtain⟨cs,hc,h⟩:=bV h
 cases h
 obtain⟨b,off,hv,hl,hr,_⟩:=a4O (P:=P) hc
 simp[execOp,ho,Instr.loadAt,hv,Instr.sureAddr,loadVar,V7 hg,v4 hs,hr]
theorem c0F{o:Oper}{T:TypeId}{x y:Operand}(ho:o.op= .store T x y){n:Nat}(hs:G6 P T=some n)(hl:(cellsOf (a.eval y)).length=n)
  (h:wrW w.heap (a.eval x) (cellsOf (a.eval y)) fun h'=>K undef h'):C4 P o a w K:=by
 obtain⟨b,off,w',hv,hr,ha,hk⟩:=a6H (P:=P) h
 refine .inr (.inl ⟨w',?_,ha,hk⟩)
 have hl':(a.eval y).cells.size=n:=by simpa[cellsOf]using hl
 simp only[cellsOf]at hr
 simp[execOp,ho,Instr.storeAt,hv,Instr.sureAddr,storeVar,v4 hs,hl',hr]
theorem a0M(w:World)(o:Obj):M4 w (w.alloc o):=⟨rfl,rfl,rfl⟩
theorem b8b{o:Oper}{T:TypeId}(ho:o.op= .alloc T){z:List Value}(hz:Y7 P T=some z)(hk:K (.pointer (some ⟨w.heap.size,0,none⟩)) (w.heap.push (.cells z.toArray T (0,0)))):C4 P o a w K:=by
 obtain⟨v,hv,hc⟩:=T2 hz w
 refine C4.value' (w.alloc (.cells z.toArray T (0,0))) ?_ (a0M _ _) hk
 simp[execOp,ho,Instr.alloc,hv,newVar,newRow,hc]
theorem c3L{o:Oper}{T:TypeId}{x:Operand}(ho:o.op= .box T x)(hk:K (.pointer (some ⟨w.heap.size,0,none⟩)) (w.heap.push (.cells (cellsOf (a.eval x)).toArray T (0,0)))):C4 P o a w K:=by
 refine C4.value' (w.alloc (.cells (cellsOf (a.eval x)).toArray T (0,0))) ?_ (a0M _ _) hk
 simp[execOp,ho,Instr.box,newVar,newRow,cellsOf]
theorem a4z(off:Nat):∀(vs:List Value) (k:Nat) (cs:Array Value),
  ((vs.zipIdx k).foldl (fun cs (p:Value×Nat)=>cs.setIfInBounds (off+p.2) p.1) cs).toList=v5 cs.toList (off+k) vs
 | [],_,_=>rfl
 |v::vs,k,cs=>by
  simp only[List.zipIdx_cons,List.foldl_cons,v5]
  rw[a4z off vs (k+1)]
  simp[Nat.add_assoc]
theorem a6v{place:Nat→Option (Nat×Nat)}{N:Nat}{a:Act}{ρ:Env}(hrel:Rel N a ρ):∀{parts:List (Nat×Operand)}{ps:List (Nat×Nat×Opd)}{zero:List Value}{cs:List Value},
  a1Q N place parts=some ps→a0s zero (ps.map fun p=>(p.1,p.2.1,ev ρ p.2.2))=some cs→
  Instr.fill place zero.toArray (parts.map fun p=>(p.1,a.eval p.2))=some cs.toArray
 | [],ps,zero,cs,hp,hf=>by
  cases hp
  simp only[List.map_nil,a0s,Option.some.injEq]at hf
  subst hf
  rfl
 |(i,x)::rest,ps,zero,cs,hp,hf=>by
  simp only[a1Q]at hp
  obtain⟨p,h1,hp⟩:=bV hp
  obtain⟨y,h2,hp⟩:=bV hp
  obtain⟨r,h3,hp⟩:=bV hp
  cases hp
  obtain⟨off,size⟩:=p
  simp only[G7,a0s]at hf
  split at hf
  ·rename_i hc
   have he:=n6 hrel h2
   have ih:=a6v hrel h3 hf
   simp only[G7,Instr.fill,h1,he]
   have hsz:(ev ρ y).cells.size=size:=by simpa[cellsOf]using hc.1
   rw[if_neg (by simp only[hsz,ne_eq,c4e,List.size_toArray,Bool.or_eq_true,decide_eq_true_eq,false_or];simp;omega)]
   have hfold:=a4z off (ev ρ y).cells.toList 0 zero.toArray
   have:Array.foldl (fun cs (p:Value×Nat)=>cs.setIfInBounds (off+p.2) p.1) zero.toArray (ev ρ y).cells.zipIdx=(v5 zero off (cellsOf (ev ρ y))).toArray:=by
    apply Array.toList_inj.1
    rw[←Array.foldl_toList,Array.toList_zipIdx]
    simpa[cellsOf]using hfold
   simp only[this]
   exact ih
  ·cases hf
end
end Go.Proofs.YtjagmebglhbdkaaGreat.MX
