import Derived.Test.YtjagmebglhbdkaaGreatK02
namespace Go.Proofs.YtjagmebglhbdkaaGreat.MX
open Go Go.Proofs
set_option linter.unusedSimpArgs false
set_option linter.unusedVariables false
section
variable{P:Program}{N:Nat}{a:Act}{ρ:Env}{w:World}{K:Value→c9→Prop}
theorem B9(z:List Value):∀n,(n8 z n).length=n*z.length
 |0=>by simp[n8]
 |n+1=>by simp[n8,B9 z n,Nat.succ_mul];omega
theorem a8j(z:List Value)(h0:0<z.length):∀(n i:Nat),i<n*z.length→(n8 z n)[i]? =z[i%z.length]?
 |0,i,h=>by simp at h
 |n+1,i,h=>by
  simp only[n8]
  by_cases hi:i<z.length
  ·rw[List.getElem?_append_left hi,Nat.mod_eq_of_lt hi]
  ·rw[a8x (by omega),a8j z h0 n (i-z.length) (by rw[Nat.succ_mul]at h;omega)]
   rw[←Nat.mod_eq_sub_mod (by omega)]
theorem a8k(z:List Value)(h0:0<z.length)(n:Nat):(Array.range (n*z.length)).map (fun i=>z.toArray[i%z.toArray.size]!)=(n8 z n).toArray:=by
 apply Array.toList_inj.1
 simp only[Array.toList_map,Array.toList_range]
 apply List.ext_getElem?
 intro i
 rw[a0H]
 by_cases hi:i<n*z.length
 ·rw[a8j z h0 n i hi]
  have hm:i%z.length<z.length:=Nat.mod_lt _ h0
  simp[hi,hm]
 ·have:(n8 z n)[i]? =none:=Y1 (by rw[B9];omega)
  simp[this,hi]
theorem a0b(z:List Value)(h0:0<z.length)(n:Nat):Builtin.zeroCells z.toArray n=(n8 z n).toArray:=by
 have:=a8k z h0 n
 simp only[List.size_toArray]at this
 simp only[Builtin.zeroCells,List.size_toArray]
 exact this
theorem a7O:∀(fs:List Field),a6P P fs=true→
  (fs.mapM (m:=Sem) fun f=>do pure (f.offset,←sizeOf f.type)).run P w= .ok (fs.map fun f=>(f.offset,(G6 P f.type).getD 0)) w
 | [],_=>by simp
 |f::fs,h=>by
  simp only[a6P,a1P]at h
  obtain⟨n,hn⟩:=Option.isSome_iff_exists.1 h.1
  have ih:=a7O fs h.2
  simp only[List.mapM_cons,Sem.run_bind,v4 hn,Result.andThen_ok,Sem.run_pure,ih,G7,hn,Option.getD_some]
theorem a9w:∀(fs:List Field),a6P P fs=true→∀i,a3W P fs i=(fs.map fun f=>(f.offset,(G6 P f.type).getD 0))[i]?
 | [],_,i=>by simp[a3W]
 |f::fs,h,i=>by
  simp only[a6P,a1P]at h
  obtain⟨n,hn⟩:=Option.isSome_iff_exists.1 h.1
  cases i with
  |zero=>simp[a3W,hn,i7]
  |succ i=>
   have:=a9w fs h.2 i
   simp only[a3W,l_p,G7]at this⊢
   exact this
theorem b1n{o:Oper}{T:TypeId}{parts:Array (Nat×Operand)}(hrel:Rel N a ρ)(ho:o.op= .build T parts){z:List Value}(hz:Y7 P T=some z){fs:Array Field}(hu:P.underlying T=some (.struct fs))
  (hall:a6P P fs.toList=true) {ps:List (Nat×Nat×Opd)} (hp:a1Q N (a3W P fs.toList) parts.toList=some ps) {v:Value}
  (h:i7 (a0s z (ps.map fun p=>(p.1,p.2.1,ev ρ p.2.2))) (fun cs=>some (Value.agg cs.toArray))=some v):(execOp a.eval o).run P w= .ok (.value v) w:=by
 obtain⟨cs,hc,h⟩:=bV h
 cases h
 obtain⟨zv,hzr,hzc⟩:=T2 hz w
 have hf:=a6v hrel hp hc
 have hpl:(fs.mapM (m:=Sem) fun f=>do pure (f.offset,←sizeOf f.type)).run P w= .ok (fs.map fun f=>(f.offset,(G6 P f.type).getD 0)) w:=by
  rw[Array.mapM_eq_mapM_toList,Sem.run_map,a7O fs.toList hall]
  have e:(fs.toList.map fun f=>(f.offset,(G6 P f.type).getD 0)).toArray=fs.map fun f=>(f.offset,(G6 P f.type).getD 0):=by
   apply Array.toList_inj.1
   simp
  simp only[Result.andThen_ok,e]
 have hplace:(fun i=>(fs.map fun f=>(f.offset,(G6 P f.type).getD 0))[i]?)=a3W P fs.toList:=by
  funext i
  rw[a9w fs.toList hall i,←Array.toList_map,a5u]
 have hparts:(parts.map fun(i,x)=>(i,a.eval x)).toList=parts.toList.map fun p=>(p.1,a.eval p.2):=by simp
 simp only[execOp,ho,Instr.build,Sem.run_bind,hzr,Result.andThen_ok,l6 hu,hzc]
 rw[hpl]
 simp only[Result.andThen_ok]
 rw[hplace,hparts,hf]
 simp
theorem a8M{o:Oper}{T n e:TypeId}{parts:Array (Nat×Operand)}(hrel:Rel N a ρ)(ho:o.op= .build T parts){z:List Value}(hz:Y7 P T=some z)(hu:P.underlying T=some (.array n e))
  {sz:Nat} (hs:G6 P e=some sz) {ps:List (Nat×Nat×Opd)} (hp:a1Q N (fun i=>some (i*sz,sz)) parts.toList=some ps) {v:Value}
  (h:i7 (a0s z (ps.map fun p=>(p.1,p.2.1,ev ρ p.2.2))) (fun cs=>some (Value.agg cs.toArray))=some v):(execOp a.eval o).run P w= .ok (.value v) w:=by
 obtain⟨cs,hc,h⟩:=bV h
 cases h
 obtain⟨zv,hzr,hzc⟩:=T2 hz w
 have hf:=a6v hrel hp hc
 have hparts:(parts.map fun(i,x)=>(i,a.eval x)).toList=parts.toList.map fun p=>(p.1,a.eval p.2):=by simp
 simp only[execOp,ho,Instr.build,Sem.run_bind,hzr,Result.andThen_ok,l6 hu,hzc,v4 hs]
 rw[hparts,hf]
 simp
theorem b6q{o:Oper}{T e len:Nat}{parts:Array (Nat×Operand)}(hrel:Rel N a ρ)(ho:o.op= .buildSlice T len parts)(hu:P.underlying T=some (.slice e))
  {sz:Nat} (hs:G6 P e=some sz) {z:List Value} (hz:Y7 P e=some z) (hl:z.length=sz∧0<sz∧len*sz≤16777216)
  {ps:List (Nat×Nat×Opd)} (hp:a1Q N (fun i=>some (i*sz,sz)) parts.toList=some ps)
  (h:N7 (a0s (n8 z len) (ps.map fun p=>(p.1,p.2.1,ev ρ p.2.2))) fun cs=>K (.slice (some ⟨w.heap.size,0,none⟩) len len) (w.heap.push (.cells cs.toArray e (0,0)))):C4 P o a w K:=by
 obtain⟨cs,hc,hk⟩:=H6 h
 obtain⟨zv,hzr,hzc⟩:=T2 hz w
 have hf:=a6v hrel hp hc
 obtain⟨rfl,h0,hle⟩:=hl
 have hparts:(parts.map fun(i,x)=>(i,a.eval x)).toList=parts.toList.map fun p=>(p.1,a.eval p.2):=by simp
 refine C4.value' (w.alloc (.cells cs.toArray e (0,0))) ?_ (a0M _ _) hk
 simp only[execOp,ho,Instr.buildSlice,Sem.run_bind,Result.andThen_ok,l6 hu,v4 hs]
 rw[if_neg (by omega)]
 by_cases hz0:len*z.length=0
 ·have hlen:len=0:=by
   rcases Nat.mul_eq_zero.1 hz0 with h|h
   ·exact h
   ·omega
  subst hlen
  simp only[Nat.zero_mul,if_true,pure_bind,Sem.run_bind,Sem.run_pure,Result.andThen_ok,hparts]
  simp only[n8]at hf
  rw[show((Array.range 0).map fun x=>(#[]:Array Value)[x% (#[]:Array Value).size]!)=(#[]:Array Value)from by simp]
  rw[show(#[]:Array Value)=([]:List Value).toArray from rfl,hf]
  simp[newRow]
 ·simp only[hz0,if_false,Sem.run_bind,hzr,Result.andThen_ok,Sem.run_pure,hzc,hparts]
  rw[a8k z h0 len,hf]
  simp[newRow]
theorem V9{x:Value}{n:Nat}(h:W8 x=some n):(Builtin.lenOf x).run P w= .ok n w:=by
 unfold W8 at h
 split at h<;>first|(cases h;rfl)|cases h
theorem O9{x:Value}{sz n:Nat}{cs:List Value}(h:x7 w.heap sz n x=some cs):(Builtin.firstCells sz n x).run P w= .ok cs.toArray w:=by
 unfold x7 at h
 split at h
 ·cases h;rfl
 ·split at h
  ·rename_i hz
   cases h
   simp[Builtin.firstCells,hz,loadCells,loadCellsFrom]
  ·rename_i ad _ _ _
   obtain⟨b,off,hv,hl,hr,_⟩:=a4O (P:=P) h
   cases hv
   simp[Builtin.firstCells,hr]
 ·rename_i s
  cases h
  simp only[Builtin.firstCells,Sem.run_pure]
  congr 1
  apply Array.toList_inj.1
  simp[ByteArray.data_extract]
 ·cases h
theorem c1P{o:Oper}{T e:TypeId}{x y:Operand}{cl:Call}(ho:o.op= .call cl)(hcl:cl.callee= .builtin .copy)(hx:cl.args.toList=[x,y])(ht:cl.argTypes[0]? =some T)(hu:P.underlying T=some (.slice e))
  {sz:Nat} (hs:G6 P e=some sz) (h:a8R sz (a.eval x) (a.eval y) w.heap K):C4 P o a w K:=by
 have hargs:cl.args.map a.eval= #[a.eval x,a.eval y]:=by
  apply Array.toList_inj.1
  simp[hx]
 unfold a8R at h
 split at h
 ·rename_i base n c hxv
  obtain⟨m,hm,h⟩:=H6 h
  obtain⟨new,hn,h⟩:=H6 h
  have hmin:Nat.min m n=min m n:=rfl
  split at h
  ·rename_i ad
   split at h
   ·rename_i hne
    subst hne
    refine C4.value' w ?_ (.refl w) h
    simp[execOp,ho,resolve,hcl,hargs,invoke,builtin,Builtin.copy_,ht,l6 hu,hxv,V9 hm,v4 hs,hmin,O9 hn,storeCells,goInt]
   ·obtain⟨b,off,w',hv,hr,ha,hk⟩:=a6H (P:=P) h
    cases hv
    refine C4.value' w' ?_ ha hk
    simp[execOp,ho,resolve,hcl,hargs,invoke,builtin,Builtin.copy_,ht,l6 hu,hxv,V9 hm,v4 hs,hmin,O9 hn,hr,goInt]
  ·refine C4.value' w ?_ (.refl w) h
   simp[execOp,ho,resolve,hcl,hargs,invoke,builtin,Builtin.copy_,ht,l6 hu,hxv,V9 hm,v4 hs,hmin,O9 hn,goInt]
 ·exact h.elim
theorem a1d{sz n:Nat}{x:Value}(w:World):x7 w.drew.heap sz n x=x7 w.heap sz n x:=rfl
set_option maxHeartbeats 4000000 in
theorem a8K{o:Oper}{T U e:TypeId}{x y:Operand}{cl:Call}(ho:o.op= .call cl)(hcl:cl.callee= .builtin .append)(hx:cl.args.toList=[x,y])(ht:cl.argTypes[0]? =some T)(ht2:cl.argTypes[1]? =some U)
  (hu:P.underlying T=some (.slice e)) {d:TypeDesc} (hd:P.underlying U=some d) (hnd:(∃e',d= .slice e')∨d= .string)
  {sz bytes:Nat} (hs:G6 P e=some sz) (hb:T6 P e=some bytes) {z:List Value} (hz:Y7 P e=some z) (hl:z.length=sz∧0<sz∧0<bytes)
  (h:a9Y e sz bytes z (a.eval x) (a.eval y) w.heap K):C4 P o a w K:=by
 have hargs:cl.args.map a.eval= #[a.eval x,a.eval y]:=by
  apply Array.toList_inj.1
  simp[hx]
 obtain⟨i,hi,hib⟩:∃i,P.info? e=some i∧i.bytes=bytes:=by
  unfold T6 at hb
  split at hb
  ·rename_i i hi;cases hb;exact⟨i,hi,rfl⟩
  ·cases hb
 have hti:∀w,(typeInfo e).run P w= .ok i w:=fun w=>by simp[typeInfo,hi]
 unfold a9Y at h
 split at h
 ·rename_i base n c hxv
  obtain⟨m,hm,h⟩:=H6 h
  obtain⟨new,hn,h⟩:=H6 h
  split at h
  ·rename_i hle
   split at h
   ·rename_i ad
    split at h
    ·rename_i hne
     subst hne
     refine C4.value' w ?_ (.refl w) h
     rcases hnd with⟨e',rfl⟩|rfl<;>(simp[execOp,ho,resolve,hcl,hargs,invoke,builtin,Builtin.append_,ht,ht2,l6 hu,l6 hd,hxv,V9 hm,v4 hs,hle,O9 hn,storeCells])
    ·obtain⟨b,off,w',hv,hr,ha,hk⟩:=a6H (P:=P) h
     injection hv with hv
     injection hv with hv
     refine C4.value' w' ?_ ha hk
     rcases hnd with⟨e',rfl⟩|rfl<;>(simp[execOp,ho,resolve,hcl,hargs,invoke,builtin,Builtin.append_,ht,ht2,l6 hu,l6 hd,hxv,V9 hm,v4 hs,hle,O9 hn,hv,hr])
   ·refine C4.value' w ?_ (.refl w) h
    rcases hnd with⟨e',rfl⟩|rfl<;>(simp[execOp,ho,resolve,hcl,hargs,invoke,builtin,Builtin.append_,ht,ht2,l6 hu,l6 hd,hxv,V9 hm,v4 hs,hle,O9 hn])
  ·rename_i hgt
   obtain⟨old,hold,hroom,h63,hkk⟩:=H6 h
   clear h
   obtain⟨rfl,h0,hb0⟩:=hl
   obtain⟨zv,hzr,hzc⟩:=T2 hz w.drew
   have hfit:Builtin.nextslicecap (n+m) c*i.bytes≤281474976710656:=growslice_fits (need:=n+m) (old:=c) (bytes:=i.bytes) (by omega) (by rw[hib];exact hroom)
   have hcap:∀t,n+m≤(Question.appendCap (n+m) c e).cut t∧(Question.appendCap (n+m) c e).cut t<9223372036854775808:=fun t=>by
    simp only[Question.cut]
    have:t% (9223372036854775808-(n+m))<9223372036854775808-(n+m):=Nat.mod_lt _ (by omega)
    constructor
    ·exact Nat.le_add_right _ _
    ·show n+m+t% (2^63-(n+m))<9223372036854775808
     have e:(2:Nat)^63=9223372036854775808:=by decide
     rw[e];omega
   obtain⟨hc1,hc2⟩:=hcap (w.tape w.drawn (Question.appendCap (n+m) c e))
   have hk:=hkk _ hc1 hc2
   generalize hcp:(Question.appendCap (n+m) c e).cut (w.tape w.drawn (Question.appendCap (n+m) c e))=cap at hk
   refine C4.value' (w.drew.alloc (.cells (old++new++n8 z (cap-(n+m))).toArray e (0,0))) ?_ ⟨rfl,rfl,rfl⟩ hk
   have hf1:(Builtin.firstCells z.length n (Value.slice base n c)).run P w.drew= .ok old.toArray w.drew:=O9 (by rw[a1d,←hxv];exact hold)
   have hf2:(Builtin.firstCells z.length m (a.eval y)).run P w.drew= .ok new.toArray w.drew:=O9 (by rw[a1d];exact hn)
   have hnle:¬(n+m≤c):=hgt
   have hn63:¬((n+m:Int)>IntKind.i64.max∧(False∨i.bytes=0)):=by
    rintro⟨_,h|h⟩
    ·exact h
    ·omega
   have hzs:=a0b z h0 (cap-(n+m))
   have hnf:¬(281474976710656<Builtin.nextslicecap (n+m) c*i.bytes):=by omega
   have hib0:i.bytes≠0:=by omega
   rcases hnd with⟨e',rfl⟩|rfl<;>(simp[execOp,ho,resolve,hcl,hargs,invoke,builtin,Builtin.append_,ht,ht2,l6 hu,l6 hd,hxv,V9 hm,v4 hs,hnle,hti,hib0,hnf,Question.forced,hcp,hf1,hf2,hzr,hzc,hzs,newRow])
 ·exact h.elim
theorem c4z{o:Oper}{s d e:TypeId}{x:Operand}(ho:o.op= .convert s d x)(h1:P.underlying s=some .string)(h2:P.underlying d=some (.slice e))(h3:P.underlying e=some (.int .u8))
  (h:c0u e (a.eval x) w.heap K):C4 P o a w K:=by
 unfold c0u at h
 split at h
 ·rename_i b hx
  obtain⟨hs,h⟩:=h
  have hcap:∀t,b.size≤(Question.appendCap b.size 0 e).cut t∧(Question.appendCap b.size 0 e).cut t<9223372036854775808:=fun t=>by
   simp only[Question.cut]
   have:t% (9223372036854775808-b.size)<9223372036854775808-b.size:=Nat.mod_lt _ (by omega)
   constructor
   ·exact Nat.le_add_right _ _
   ·show b.size+t% (2^63-b.size)<9223372036854775808
    have e:(2:Nat)^63=9223372036854775808:=by decide
    rw[e];omega
  obtain⟨hc1,hc2⟩:=hcap (w.tape w.drawn (Question.appendCap b.size 0 e))
  have hk:=h _ hc1 hc2
  generalize hcp:(Question.appendCap b.size 0 e).cut (w.tape w.drawn (Question.appendCap b.size 0 e))=cap at hk hc1
  have hel:((b.data.map fun c:UInt8=>Value.int .u8 c.toNat)++Array.replicate (cap-b.size) (Value.int .u8 0))=
    ((b.data.toList.map fun c:UInt8=>Value.int .u8 c.toNat)++List.replicate (cap-b.size) (Value.int .u8 0)).toArray:=by
   apply Array.toList_inj.1
   simp
  have hlen:((b.data.toList.map fun c:UInt8=>Value.int .u8 c.toNat)++List.replicate (cap-b.size) (Value.int .u8 0)).length=cap:=by
   have:b.data.toList.length=b.size:=Array.length_toList
   simp only[l_m,l_z,G4,this]
   omega
  generalize hL:((b.data.toList.map fun c:UInt8=>Value.int .u8 c.toNat)++List.replicate (cap-b.size) (Value.int .u8 0))=L at*
  refine C4.value' {w.drew with heap:=w.heap.push (.cells L.toArray e (cap,cap+1))} ?_ ⟨rfl,rfl,rfl⟩ hk
  have hfz:(w.drew.alloc (.cells L.toArray e (0,0))).freeze {block:=w.heap.size,off:=cap} 1={w.drew with heap:=w.heap.push (.cells L.toArray e (cap,cap+1))}:=by
   simp only[World.freeze,World.alloc,Nat.one_ne_zero,if_false]
   congr 1
   apply Array.ext_getElem?
   intro i
   simp only[Array.getElem?_modify,Array.getElem?_push]
   show(if w.heap.size=i then _ else _)=_
   by_cases hi:w.heap.size=i
   ·subst hi;simp
   ·simp[hi,Ne.symm hi]
    rfl
  have hshape:(w.drew.alloc (.cells L.toArray e (0,0))).shape? w.heap.size=some (e,cap):=by
   have:(w.drew.alloc (.cells L.toArray e (0,0))).heap[w.heap.size]? =some (.cells L.toArray e (0,0)):=by
    show(w.heap.push _)[w.heap.size]? =_
    simp
   simp only[World.shape?,this,List.size_toArray,hlen]
  simp[execOp,ho,convert,l6 h1,l6 h2,l6 h3,hx,Conv.stringToBytes,Question.forced,hcp,hel,newRow,markStringish,hshape,hfz]
 ·exact h.elim
theorem c5n{o:Oper}{T e:TypeId}{l c:Operand}(ho:o.op= .makeSlice T l c)(hu:P.underlying T=some (.slice e))
  {sz bytes:Nat} (hs:G6 P e=some sz) (hb:T6 P e=some bytes) {z:List Value} (hz:Y7 P e=some z) (hl:z.length=sz∧0<sz)
  (h:mkW e bytes z (a.eval l) (a.eval c) w.heap K):C4 P o a w K:=by
 obtain⟨i,hi,hib⟩:∃i,P.info? e=some i∧i.bytes=bytes:=by
  unfold T6 at hb
  split at hb
  ·rename_i i hi;cases hb;exact⟨i,hi,rfl⟩
  ·cases hb
 have hti:(typeInfo e).run P w= .ok i w:=by simp[typeInfo,hi]
 obtain⟨rfl,h0⟩:=hl
 obtain⟨zv,hzr,hzc⟩:=T2 hz w
 unfold mkW at h
 split at h
 ·rename_i ln cp hlv hcv
  obtain⟨⟨c0,c1,c2,c3⟩,hk⟩:=h
  have w1:IntKind.i64.wrap ln=ln:=IntWalk.i64_in _ (by omega)
  have w2:IntKind.i64.wrap cp=cp:=IntWalk.i64_in _ (by omega)
  have n1:¬(cp<0):=by omega
  have n2:¬(ln<0):=by omega
  have n3:¬(cp<ln):=by omega
  have n4:¬(281474976710656<(i.bytes:Int)*cp):=by rw[hib,Int.mul_comm];omega
  refine C4.value' (w.alloc (.cells (n8 z cp.toNat).toArray e (0,0))) ?_ (a0M _ _) hk
  have hzs:=a8k z h0 cp.toNat
  by_cases hc0:cp.toNat=0
  ·have er:(Array.map (fun x=>(#[]:Array Value)[x% (#[]:Array Value).size]!) (Array.range 0))= #[]:=by simp
   simp only[execOp,ho,Instr.makeSlice,Sem.run_bind,l6 hu,hlv,hcv,asInt,asIntOf,Sem.run_pure,Result.andThen_ok,hti,w1,w2,v4 hs]
   simp[n1,n2,n3,n4,hc0,newRow,n8,v4 hs]
   rw[show Array.range 0= #[]from rfl,Array.map_empty]
  ·have hne:cp.toNat*z.length≠0:=Nat.mul_ne_zero hc0 (by omega)
   simp only[execOp,ho,Instr.makeSlice,Sem.run_bind,l6 hu,hlv,hcv,asInt,asIntOf,Sem.run_pure,Result.andThen_ok,hti,w1,w2,v4 hs]
   simp[n1,n2,n3,n4,hc0,hne,hzr,hzc,newRow,v4 hs]
   rw[←hzs]
   simp
 ·exact h.elim
theorem b6Y {f : FuncId} (h : a3T P f = true) : ∃ fn, P.funcs[f]? = some fn ∧ (fn.name == "runtime.NumGoroutine") = false ∧ fn.body.isSome = true := by
 unfold a3T at h
 split at h
 ·rename_i fn hf
  simp only[a1P,Bool.not_eq_true']at h
  exact⟨fn,hf,h.2,h.1⟩
 ·cases h
theorem a4m{f:FuncId}(h:a3T P f=true)(args:Array Value):(callFunc f args).run P w= .ok (.enter f args) w:=by
 obtain⟨fn,hf,hn,hb⟩:=b6Y h
 have hb':fn.body.isNone=false:=by cases hfb:fn.body<;>simp_all
 simp only[callFunc,Sem.run_bind,run_program,Result.andThen_ok,hf,hn,hb',Bool.false_eq_true,if_false,Sem.run_pure]
theorem c1L{o:Oper}{f:FuncId}{cl:Call}(ho:o.op= .call cl){xs:List Value}(hf:∃x,cl.callee= .value x∧a.eval x= .func (.func f) #[] #[])(hx:cl.args.toList.map a.eval=xs)(hok:a3T P f=true)
  (h:d8 P f xs w.heap K):C4 P o a w K:=by
 obtain⟨x,hcl,hfx⟩:=hf
 refine .inr (.inr ⟨f,xs.toArray,w,?_,.refl w,h⟩)
 have hargs:cl.args.map a.eval=xs.toArray:=by
  apply Array.toList_inj.1
  simp[hx]
 simp[execOp,ho,resolve,hcl,hargs,hfx,Deferred.ofValue,invoke,a4m hok]
theorem b8r{o:Oper}{x:Operand}{cl:Call}(ho:o.op= .call cl){xs:List Value}(hcl:cl.callee= .value x)(hx:cl.args.toList.map a.eval=xs)
  (h:a3J P (a.eval x) xs w.heap K):C4 P o a w K:=by
 have hargs:cl.args.map a.eval=xs.toArray:=by
  apply Array.toList_inj.1
  simp[hx]
 unfold a3J at h
 split at h
 ·rename_i f first captured hfx
  obtain⟨hok,h⟩:=h
  refine .inr (.inr ⟨f,first++xs.toArray++captured,w,?_,.refl w,by simpa using h⟩)
  simp[execOp,ho,resolve,hcl,hargs,hfx,Deferred.ofValue,invoke,a4m hok]
 ·exact h.elim
theorem b8e{o:Oper}(hrel:Rel N a ρ)(hall:o.op.operands.toList.all (b9S N)=true)(h:(Eff.any o).wp P ρ w.heap K):C4 P o a w K:=by
 simp only[Eff.wp]at h
 obtain⟨v,w',hr,ha,hk⟩:=h w a rfl (fun x hx=>by
  have:=List.all_eq_true.1 hall x (by simpa using hx)
  cases x with
  |tmp t=>exact hrel.get t
  |_=>rfl)
 rcases hr with hr|⟨hr,rfl⟩
 ·exact .inl ⟨v,w',hr,ha,hk⟩
 ·exact .inr (.inl ⟨w',hr,ha,hk⟩)
end
section
variable{P:Program}{N:Nat}{a:Act}{ρ:Env}{w:World}{K:Value→c9→Prop}
theorem V5:∀{ks:List CK}{xs ys:List Value}{b:Bool},eqK ks xs ys=some b→xs.length=ks.length∧ys.length=ks.length
 | [],[],[],b,h=>⟨rfl,rfl⟩
 |k::ks,x::xs,y::ys,b,h=>by
  simp only[eqK]at h
  obtain⟨b1,h1,h⟩:=bV h
  obtain⟨b2,h2,h⟩:=bV h
  have:=V5 h2
  simp[this.1,this.2]
 | [],[],_::_,b,h=>by cases h
 | [],_::_,_,b,h=>by cases h
 |_::_,[],_,b,h=>by cases h
 |_::_,_::_,[],b,h=>by cases h
theorem a3M:∀{k1 k2:List CK}{xs ys:List Value}{b:Bool},eqK (k1++k2) xs ys=some b→
  ∃b1 b2,eqK k1 (xs.take k1.length) (ys.take k1.length)=some b1∧eqK k2 (xs.drop k1.length) (ys.drop k1.length)=some b2∧b=(b1&&b2)
 | [],k2,xs,ys,b,h=>⟨true,b,by simp[eqK],by simpa using h,by simp⟩
 |k::k1,k2,x::xs,y::ys,b,h=>by
  simp only[l_j,eqK]at h
  obtain⟨b1,h1,h⟩:=bV h
  obtain⟨b2,h2,h⟩:=bV h
  cases h
  obtain⟨c1,c2,e1,e2,rfl⟩:=a3M h2
  refine⟨b1&&c1,c2,?_,by simpa using e2,by simp[Bool.and_assoc]⟩
  simp only[l_f,a7v,eqK,h1,e1,i7]
 |_::_,_,[],_,b,h=>by cases h
 |_::_,_,_::_,[],b,h=>by cases h
def mkV(P:Program)(t:TypeId)(cs:List Value):Value:=
 match x8 P t with
 |some true=> .agg cs.toArray
 |_=>cs.headD undef
theorem a4L{t n:Nat}{cs:List Value}{off:Nat}(hs:G6 P t=some n)(h0:x8 P t=some false→n=1)(hg:∃g,x8 P t=some g)(hl:off+n≤cs.length):(part t cs.toArray off).run P w= .ok (mkV P t ((cs.drop off).take n)) w:=by
 obtain⟨g,hg⟩:=hg
 cases g with
 |true=>
  rw[a7L hg hs]
  have:(List.take (off+n-off) (List.drop off cs))=(cs.drop off).take n:=by congr 1;omega
  simp[mkV,hg,this]
 |false=>
  have h1:=h0 hg
  subst h1
  have hlt:off<cs.length:=by omega
  have hv:cs.toArray[off]? =some cs[off]:=by simp[hlt]
  rw[a7M hg hv]
  have:cs.drop off=cs[off]::cs.drop (off+1):=X8 hlt
  simp only[mkV,hg]
  rw[this]
  rfl
theorem b9p{n:Nat}{t u:TypeId}(hne:(t==u)=false)(hl:b9o P t=true):P.alikeButTags (n+1) t u=false:=by
 unfold b9o at hl
 unfold Program.alikeButTags
 split at hl
 ·rename_i i hi
  rw[hi,hne]
  generalize P.info? u=z
  obtain⟨d,_,_,_,_,_,_⟩:=i
  simp only[Option.map_some,Bool.false_or]
  simp only at hl
  cases d<;>first|(cases hl;done)|rfl|(cases z<;>rfl)
 ·cases hl
theorem b8U{n:Nat}:∀{fs gs:List Field},b4P P fs gs=true→fs.length≠gs.length∨∃x∈fs.zip gs,P.alikeButTags (n+1) x.1.type x.2.type=false
 | [],[],h=>by cases h
 |f::fs,[],_=> .inl (by simp)
 | [],g::gs,_=> .inl (by simp)
 |f::fs,g::gs,h=>by
  unfold b4P at h
  rw[Bool.or_eq_true,a1P,Bool.not_eq_true']at h
  rcases h with⟨h1,h2⟩|h
  ·exact .inr ⟨(f,g),by simp,b9p h1 h2⟩
  ·rcases b8U (n:=n) h with h|⟨x,hx,h⟩
   ·exact .inl (by simpa using h)
   ·exact .inr ⟨x,by rw[List.zip_cons_cons];exact l_l _ hx,h⟩
theorem b6E{n:Nat}{t u:TypeId}(h:c3V P t u=true):P.alikeButTags (n+2) t u=false:=by
 unfold c3V at h
 split at h
 ·rename_i i j hi hj
  unfold Program.alikeButTags
  rw[hi,hj]
  obtain⟨d,_,_,_,_,_,_⟩:=i
  obtain⟨e,_,_,_,_,_,_⟩:=j
  simp only[Option.map_some]
  simp only at h
  cases e with
  |struct gs=>
   cases d with
   |struct fs=>
    simp only[a1P,Bool.not_eq_true']at h
    rw[h.1,Bool.false_or]
    simp only
    rw[Bool.and_eq_false_iff]
    rcases b8U (n:=n) h.2 with h|⟨x,hx,h⟩
    ·exact .inl (by simpa using h)
    ·refine .inr ?_
     rw[←Array.all_toList,Array.toList_zip]
     obtain⟨f,g⟩:=x
     exact List.all_eq_false.2 ⟨_,hx,by simp only[h,Bool.and_false];decide⟩
   |_=>simp only[Bool.not_eq_true']at h;rw[h];rfl
  |_=>cases d<;>cases h
 ·cases h
theorem b9g(t:TypeId):b9f P t=P.stoodInHeld t:=by
 unfold b9f
 split
 ·rename_i h
  unfold Program.stoodInHeld Program.stoodInAs
  split
  ·rw[List.filter_eq_nil_iff.2]
   ·rfl
   ·intro c hc
    rw[List.all_eq_true]at h
    have:=b6E (n:=P.depth-2) (h c hc)
    rw[show P.depth-2+2=P.depth by unfold Program.depth Made.depth;omega]at this
    rw[this];decide
  ·rfl
 ·rfl
theorem a9j{d t:Nat}{ks:List CK}(h:V8 P d t=some ks):(∃g,x8 P t=some g)∧(x8 P t=some false→ks.length=1):=by
 cases d with
 |zero=>cases h
 |succ d=>
  simp only[V8]at h
  unfold x8
  split at h
  ·rename_i k hu;cases h;simp only[hu];exact⟨⟨false,rfl⟩,fun _=>rfl⟩
  ·rename_i hu;cases h;simp only[hu];exact⟨⟨false,rfl⟩,fun _=>rfl⟩
  ·rename_i hu;cases h;simp only[hu];exact⟨⟨false,rfl⟩,fun _=>rfl⟩
  ·rename_i fs hu
   simp only[hu]
   exact⟨⟨true,rfl⟩,fun h=>by cases h⟩
  ·rename_i n e hu
   simp only[hu]
   exact⟨⟨true,rfl⟩,fun h=>by cases h⟩
  ·cases h
theorem b0g{k:CK}{xs ys:List Value}{b:Bool}(h:eqK [k] xs ys=some b):∃x y,xs=[x]∧ys=[y]∧a0Y k x y=some b:=by
 obtain⟨h1,h2⟩:=V5 h
 obtain⟨x,rfl⟩:=List.length_eq_one_iff.1 h1
 obtain⟨y,rfl⟩:=List.length_eq_one_iff.1 h2
 simp only[eqK]at h
 obtain⟨b1,hb,h⟩:=bV h
 cases h
 exact⟨x,y,rfl,rfl,by simpa using hb⟩
theorem b8u{x y:Value}{b:Bool}(h:a0Y .i x y=some b):∃k p q,x= .int k p∧y= .int k q∧b=(p==q):=by
 cases x<;>cases y<;>simp[a0Y]at h
 obtain⟨rfl,h⟩:=h
 exact⟨_,_,_,rfl,rfl,h.symm⟩
theorem b8t{x y:Value}{b:Bool}(h:a0Y .b x y=some b):∃p q,x= .bool p∧y= .bool q∧b=(p==q):=by
 cases x<;>cases y<;>simp[a0Y]at h
 exact⟨_,_,rfl,rfl,h.symm⟩
theorem b8v{x y:Value}{b:Bool}(h:a0Y .s x y=some b):∃p q,x= .string p∧y= .string q∧b=(p.toList==q.toList):=by
 cases x<;>cases y<;>simp[a0Y]at h
 exact⟨_,_,rfl,rfl,h.symm⟩
theorem a7t:∀(d:Nat) {t:TypeId}{ks:List CK}{xs ys:List Value}{b:Bool} (w:World) (m:Nat),V8 P d t=some ks→eqK ks xs ys=some b→
  (Op.equalIn (d+m) t (mkV P t xs) (mkV P t ys)).run P w= .ok b w
 |0,t,ks,xs,ys,b,w,m,hk,he=>by cases hk
 |d+1,t,ks,xs,ys,b,w,m,hk,he=>by
  rw[show d+1+m=(d+m)+1 by omega]
  simp only[V8]at hk
  split at hk
  ·rename_i k hu
   cases hk
   have hag:x8 P t=some false:=by simp[x8,hu]
   obtain⟨x,y,rfl,rfl,h1⟩:=b0g he
   obtain⟨k',p,q,rfl,rfl,rfl⟩:=b8u h1
   simp only[mkV,hag,List.headD_cons]
   rw[run_equalIn_int _ _ _ _ _ _ _ hu]
  ·rename_i hu
   cases hk
   have hag:x8 P t=some false:=by simp[x8,hu]
   obtain⟨x,y,rfl,rfl,h1⟩:=b0g he
   obtain⟨p,q,rfl,rfl,rfl⟩:=b8t h1
   simp only[mkV,hag,List.headD_cons]
   rw[run_equalIn_bool' _ _ _ _ _ hu]
  ·rename_i hu
   cases hk
   have hag:x8 P t=some false:=by simp[x8,hu]
   obtain⟨x,y,rfl,rfl,h1⟩:=b0g he
   obtain⟨p,q,rfl,rfl,rfl⟩:=b8v h1
   simp only[mkV,hag,List.headD_cons]
   rw[run_equalIn_string _ _ _ _ _ hu]
  ·rename_i fs hu
   split at hk
   ·cases hk
   ·rename_i hst
    rw[b9g]at hst
    have hag:x8 P t=some true:=by simp[x8,hu]
    have hfo:P.fieldsOf t=fs:=by simp[Program.fieldsOf,hu]
    simp only[mkV,hag]
    rw[run_equalIn_struct w (d+m) t _ _ (by rw[hfo];exact hu) (by simpa using hst),hfo]
    have key:∀(l:List Field) (off:Nat) (ks:List CK) (b:Bool),a3f P (V8 P d) l off=some ks→eqK ks (xs.drop off) (ys.drop off)=some b→
      (Op.eqFields (d+m) xs.toArray ys.toArray l).run P w= .ok b w:=by
     intro l
     induction l with
     |nil=>
      intro off ks b hk he
      cases hk
      have:=V5 he
      have e1:xs.drop off=[]:=a7w this.1
      have e2:ys.drop off=[]:=a7w this.2
      rw[e1,e2]at he
      cases he
      rfl
     |cons f l ih=>
      intro off ks b hk he
      simp only[a3f]at hk
      split at hk
      ·rename_i hof
       obtain⟨k,h1,hk⟩:=bV hk
       obtain⟨n,h2,hk⟩:=bV hk
       split at hk
       ·rename_i hkn
        obtain⟨kr,h3,hk⟩:=bV hk
        cases hk
        obtain⟨b1,b2,e1,e2,rfl⟩:=a3M he
        have hl:=V5 he
        simp only[M2,l_m]at hl
        obtain⟨hg,hg1⟩:=a9j h1
        obtain⟨hkn,hpos⟩:=hkn
        have hlx:off+n≤xs.length:=by omega
        have hly:off+n≤ys.length:=by omega
        obtain⟨hof1,hof2⟩:=hof
        subst hof1
        have hne : f.name ≠ "_" := by simpa using hof2
        have p1:=a4L (P:=P) (w:=w) (cs:=xs) h2 (fun h=>by rw[←hkn];exact hg1 h) hg hlx
        have p2:=a4L (P:=P) (w:=w) (cs:=ys) h2 (fun h=>by rw[←hkn];exact hg1 h) hg hly
        rw[hkn]at e1 e2
        have p3:=a7t d w m h1 e1
        simp only[Op.eqFields,ne_eq,hne,U9,if_true,Sem.run_bind,p1,p2,p3,Result.andThen_ok]
        cases b1 with
        |false=>simp
        |true=>
         rw[List.drop_drop,List.drop_drop]at e2
         simpa using ih (f.offset+n) kr b2 h3 e2
       ·cases hk
      ·cases hk
    have:=key fs.toList 0 ks b hk (by simpa using he)
    exact this
  ·rename_i n e hu
   obtain⟨k,h1,hk⟩:=bV hk
   obtain⟨sz,h2,hk⟩:=bV hk
   split at hk
   ·rename_i hkn
    cases hk
    obtain⟨hkn,hpos⟩:=hkn
    have hag:x8 P t=some true:=by simp[x8,hu]
    obtain⟨hg,hg1⟩:=a9j h1
    simp only[mkV,hag]
    simp only[Op.equalIn,Sem.run_bind,l6 hu,Result.andThen_ok,v4 h2]
    have key:∀(n i:Nat) (b:Bool) (w:World),eqK (a4p k n) (xs.drop (i*sz)) (ys.drop (i*sz))=some b→
      (forIn (m:=Sem) (List.range' i n) ((none:Option Bool),()) fun i _=>do
       let a←part e xs.toArray (i*sz)
       let c←part e ys.toArray (i*sz)
       let r←Op.equalIn (d+m) e a c
       if(!r)=true then pure (ForInStep.done (some false,()))else pure (ForInStep.yield (none,()))).run P w= .ok (if b then none else some false,()) w:=by
     intro n
     induction n with
     |zero=>
      intro i b w he
      simp only[a4p]at he
      have:=V5 he
      have e1:xs.drop (i*sz)=[]:=a7w this.1
      have e2:ys.drop (i*sz)=[]:=a7w this.2
      rw[e1,e2]at he
      cases he
      rfl
     |succ n ih=>
      intro i b w he
      simp only[a4p]at he
      obtain⟨b1,b2,e1,e2,rfl⟩:=a3M he
      have hl:=V5 he
      simp only[M2,l_m]at hl
      have p1:=a4L (P:=P) (w:=w) (cs:=xs) (off:=i*sz) h2 (fun h=>by rw[←hkn];exact hg1 h) hg (by omega)
      have p2:=a4L (P:=P) (w:=w) (cs:=ys) (off:=i*sz) h2 (fun h=>by rw[←hkn];exact hg1 h) hg (by omega)
      rw[hkn]at e1 e2
      have p3:=a7t d w m h1 e1
      rw[List.range'_succ]
      simp only[List.forIn_cons,Sem.run_bind,p1,p2,p3,Result.andThen_ok]
      cases b1 with
      |false=>simp
      |true=>
       rw[List.drop_drop,List.drop_drop]at e2
       have:=ih (i+1) b2 w (by rw[Nat.succ_mul];exact e2)
       simpa using this
    rw[Std.Legacy.Range.forIn_eq_forIn_range']
    have hk2:=key n 0 b w (by simpa using he)
    simp only[Std.Legacy.Range.size,Nat.sub_zero,a4E,Nat.div_one]
    rw[hk2]
    cases b<;>rfl
   ·cases hk
  ·cases hk
theorem a5Z{rec:TypeId→Option (List CK)}:∀{fs:List Field}{off:Nat}{ks:List CK},a3f P rec fs off=some ks→∀f∈fs,∃k,rec f.type=some k
 |f::fs,off,ks,h,g,hg=>by
  unfold a3f at h
  split at h
  ·obtain⟨k,h1,h⟩:=bV h
   obtain⟨n,h2,h⟩:=bV h
   split at h
   ·obtain⟨r,h3,h⟩:=bV h
    rcases List.mem_cons.1 hg with rfl|hg
    ·exact⟨k,h1⟩
    ·exact a5Z h3 g hg
   ·cases h
  ·cases h
theorem a1N:∀{n d:Nat}{t:TypeId}{ks:List CK},n≤d→V8 P n t=some ks→P.eqGuardType d t=false
 |n+1,d+1,t,ks,hd,h=>by
  unfold V8 at h
  unfold Program.eqGuardType
  split at h<;>rename_i hu<;>try rw[hu]
  ·split at h
   ·cases h
   ·show Array.any _ _=false
    rw[Array.any_eq_false]
    intro i hi
    obtain⟨k,hk⟩:=a5Z h _ (Array.getElem_mem_toList hi)
    have:=a1N (Nat.le_of_succ_le_succ hd) hk
    simp[this]
  ·obtain⟨k,hk,_⟩:=bV h
   exact a1N (Nat.le_of_succ_le_succ hd) hk
  ·cases h
theorem a0P{t:TypeId}{ks:List CK}(h:V8 P 9 t=some ks):P.eqGuardType P.depth t=false:=a1N (by unfold Program.depth Made.depth;omega) h
theorem a2x{o:Oper}{op:BinOp}{T yT:TypeId}{x y:Operand}(ho:o.op= .binOp op T x y yT)(hag:x8 P T=some true)(hgt:P.eqGuardType P.depth T=false){ks:List CK}(hk:V8 P 9 T=some ks)
  {neg:Bool} (hop:op=if neg then .neq else .eql) {v:Value} (h:i7 (b6D ks (a.eval x) (a.eval y)) (fun b=>some (Value.bool (if neg then !b else b)))=some v):
  (execOp a.eval o).run P w= .ok (.value v) w:=by
 obtain⟨b,hb,hv⟩:=bV h
 cases hv
 unfold b6D at hb
 split at hb
 ·rename_i xs ys hx hy
  have he:=a7t 9 w 9991 hk hb
  simp only[mkV,hag,Array.toArray_toList]at he
  have hg:=run_eqGuard_agg (P:=P) w op T x y xs ys hgt
  simp only[execOp,ho,hx,hy,Sem.run_bind,hg,Result.andThen_ok]
  subst hop
  cases neg
  ·simp only[Bool.false_eq_true,if_false]
   rw[run_eql_struct,show(10000:Nat)=9+9991 from rfl,he]
   rfl
  ·simp only[if_true]
   rw[run_neq_struct,show(10000:Nat)=9+9991 from rfl,he]
   rfl
 ·cases hb
theorem b8y{o:Oper}{T e:TypeId}{x:Operand}{cl:Call}(ho:o.op= .call cl)(hcl:cl.callee= .builtin .clear)(hx:cl.args.toList=[x])(ht:cl.argTypes[0]? =some T)(hu:P.underlying T=some (.slice e))
  {z:List Value} (hz:Y7 P e=some z) (h0:0<z.length) (h:a5i z (a.eval x) w.heap K):C4 P o a w K:=by
 have hargs:cl.args.map a.eval= #[a.eval x]:=by
  apply Array.toList_inj.1
  simp[hx]
 obtain⟨zv,hzr,hzc⟩:=T2 hz w
 unfold a5i at h
 split at h
 ·rename_i base n c hxv
  split at h
  ·rename_i ad
   split at h
   ·rename_i hn
    subst hn
    refine C4.value' w ?_ (.refl w) h
    simp[execOp,ho,resolve,hcl,hargs,invoke,builtin,Builtin.clear_,ht,l6 hu,hxv]
   ·rename_i hn
    obtain⟨b,off,w',hv,hr,ha,hk⟩:=a6H (P:=P) h
    cases hv
    refine C4.value' w' ?_ ha hk
    obtain⟨n,rfl⟩:=Nat.exists_eq_succ_of_ne_zero hn
    simp[execOp,ho,resolve,hcl,hargs,invoke,builtin,Builtin.clear_,ht,l6 hu,hxv,hzr,hzc,a0b z h0,hr]
  ·refine C4.value' w ?_ (.refl w) h
   simp[execOp,ho,resolve,hcl,hargs,invoke,builtin,Builtin.clear_,ht,l6 hu,hxv]
 ·exact h.elim
end
end Go.Proofs.YtjagmebglhbdkaaGreat.MX
