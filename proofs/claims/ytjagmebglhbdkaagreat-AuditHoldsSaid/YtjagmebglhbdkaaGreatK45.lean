import Derived.Test.YtjagmebglhbdkaaGreatK35
import Derived.Test.YtjagmebglhbdkaaGreatK12
import Derived.Test.YtjagmebglhbdkaaGreatK25
import Derived.Test.YtjagmebglhbdkaaGreatK44
import Derived.Test.YtjagmebglhbdkaaGreatK24
import Derived.Test.YtjagmebglhbdkaaGreatK30
import Derived.Test.YtjagmebglhbdkaaGreatK20
import Derived.Test.YtjagmebglhbdkaaGreatK21
namespace Go.Proofs.YtjagmebglhbdkaaGreat.MX
open Go Go.Proofs
set_option linter.unusedSimpArgs false
set_option linter.unusedVariables false
section
set_option maxHeartbeats 16000000
def a9C(s:Sag)(i:Nat)(r:Ret):Prop:=r.num=(i:Int)+1∧(r.state=5→0<l8 r.num s.O)∧(V1 r→l8 r.num s.O=0∧(0≤r.res→i5 s.K r.res=8))
def a1x(s:Sag):Prop:=∀(i:Nat) (r:Ret),s.R[i]? =some r→a9C s i r
def a6F(s:Sag):Prop:=(∀r∈s.R,V1 r)∧∀m∈s.O,m.kind<1
section
variable{h0 h:c9}{l:List HP}{p:Nat}{D:Cfg}{s:Sag}{U:List Unt}{u:Value}
theorem a5L(W:Aud D U s)(S:St h0 h (B5 p D u s::l)):
  d8 Tryz.prog 33 [.pointer (some ⟨p,0,none⟩)] h fun v h'=>v= .bool (dcd (a1x s))∧St h0 h' (B5 p D u s::l):=by
 have hrl:=W.rl
 have hkl:=W.kl
 have hol:=W.ol
 refine EN i33.eq_1 fun K hK=>Wa ?_
 refine cI (a8I S (by omega)) ?_
 clear S
 rintro _ h ⟨k,rfl,S⟩
 refine Wa ?_
 refine cI (a6L S.p1 hol) ?_
 clear S
 rintro _ h ⟨o,rfl,S⟩
 refine Wa ?_
 refine cI (a4i S.p1 (by omega) W.len) ?_
 clear S
 intro v h S
 obtain⟨vs,hvs,S⟩:=St.rmas.1 S
 have hvl:vs.length≤100:=by rw[←l_z (f:=i0.r),hvs];omega
 obtain⟨B,d,rfl⟩:=S.sl
 refine Wa ?_
 refine lI (fun ρ h'=>ρ 3= .pointer (some ⟨k,0,none⟩)∧ρ 4= .pointer (some ⟨o,0,none⟩)∧ρ 15= .slice B vs.length d∧ρ 16= .int .i64 vs.length∧∃i:Nat,ρ 17= .int .i64 i∧i≤vs.length∧(∀(j:Nat) (r:Ret),j<i→s.R[j]? =some r→a9C s j r)∧
  St h0 h' (i4 i0.enc 14 136 (.slice B vs.length d) vs::(vs.map j2++(B5 p D u s::D8 o s.key s.O::t6 k s.K::l)))) (fun ρ _=>vs.length-(iv (ρ 17)).toNat) ?_ ?_
 ·refine Wa ?_
  exact⟨0,rfl,by omega,fun j r hj=>absurd hj (by omega),S⟩
 clear S
 rintro ρ h J hJ ⟨e3,e4,e15,e16,i,e17,hi,hok,S⟩
 refine Wc e16 e17 ?_
 refine cD (fun hlt=> ?_) (fun hlt=> ?_)
 ·have hil:i<vs.length:=by omega
  have hmem:=l_v hil
  obtain⟨b1,o1,hA,q1⟩:=(S.arr i0.enc_len).at hil
  have hin:∀{h':c9}{L:List HP},St h0 h' L→(∀x∈vs.map j2,x∈L)→Arr i6 1 h' vs[i].A vs[i].r.us∧Arr i6 1 h' vs[i].B vs[i].r.gs:=fun S hL=>K4 S (hL _ (a0I hmem))
  have hmr:vs[i].r∈s.R:=by rw[←hvs];exact a0I hmem
  have hat:s.R[i]? =some vs[i].r:=by rw[←hvs,a0H,l_r hil];rfl
  obtain⟨hright,_⟩:=W.rr _ hmr
  have hlen:=W.len _ hmr
  have hbad:¬a9C s i vs[i].r→¬a1x s:=fun hn h=>hn (h i _ hat)
  have hsn:a9C s i vs[i].r→∀(j:Nat) (r:Ret),j<i+1→s.R[j]? =some r→a9C s j r:=fun hx j r hj hr=>by
   by_cases e:j=i
   ·rw[e]at hr⊢
    rw[hat]at hr
    cases hr
    exact hx
   ·exact hok j r (by omega) hr
  generalize vs[i]=x at*
  refine We e15 e17 hA q1 ?_
  (revert S;(try clear F);refine AL fun q h S F=> ?_)
  refine Wc F @i0.enc.eq_1 ?_
  refine tS S rfl rfl (l_a rfl) ?_
  clear S F q1
  intro h S
  replace S:=S.nm
  have S:St h0 h (d9 q x.enc 136::_):=S
  ((try clear F);have F:=S.fx)
  refine Wd F e4 @i0.enc.eq_1 ?_
  obtain⟨M,S1⟩:=Z4 S (X:=D8 o s.key s.O) (by simp)
  refine cI (a8J x.r.num S1 hol) ?_
  clear S1 M
  rintro _ h ⟨rfl,f1⟩
  have S:=S.frame f1
  clear f1
  ((try clear F);have F:=S.fx)
  refine Wc F @i0.enc.eq_1 ?_
  have hin':=hin S fun z hz=>by simp only[l_e,l_y];exact .inr (.inr (.inl hz))
  refine cI (a5R x hin'.1 hin'.2 hlen.1 hlen.2) ?_
  clear hin'
  rintro _ h ⟨rfl,f1⟩
  have S:=S.frame f1
  clear f1
  rw[dT hright]
  have hrow:a9C s i x.r↔(x.r.num=(i:Int)+1∧(x.r.state=5→0<l8 x.r.num s.O)∧(V1 x.r→l8 x.r.num s.O=0∧(0≤x.r.res→i5 s.K x.r.res=8))):=Iff.rfl
  generalize l8 x.r.num s.O=wt at*
  ((try clear F);have F:=S.fx)
  by_cases k1:x.r.num=(i:Int)+1
  case neg=>
   refine Wc F @i0.enc.eq_1 ?_
   exact hK _ _ ⟨by rw[dF (hbad fun h=>k1 (hrow.1 h).1)],S.tl.tl.dropL.d1.d1⟩
  by_cases k2:x.r.state=5
  ·by_cases k3:(0:Int)<(wt:Int)
   case neg=>
    refine Wc F @i0.enc.eq_1 ?_
    exact hK _ _ ⟨by rw[dF (hbad fun h=>by have:=(hrow.1 h).2.1 k2;omega)],S.tl.tl.dropL.d1.d1⟩
   have k4:¬V1 x.r:=fun h=>by have:=h.1;omega
   refine Wc F @i0.enc.eq_1 ?_
   refine cI (X2 x _) ?_
   rintro _ h ⟨rfl,f1⟩
   have S:=S.frame f1
   clear f1
   rw[dF k4]
   refine Wb e17 ?_
   refine hJ _ _ ?_ ?_
   ·refine We e3 e4 e15 e16 ?_
    exact⟨i+1,rfl,by omega,hsn (hrow.2 ⟨k1,fun _=>by omega,fun h=>absurd h k4⟩),S.tl⟩
   ·refine Wb e17 ?_
    omega
  by_cases k4:V1 x.r
  case neg=>
   refine Wc F @i0.enc.eq_1 ?_
   refine cI (X2 x _) ?_
   rintro _ h ⟨rfl,f1⟩
   have S:=S.frame f1
   clear f1
   rw[dF k4]
   refine Wb e17 ?_
   refine hJ _ _ ?_ ?_
   ·refine We e3 e4 e15 e16 ?_
    exact⟨i+1,rfl,by omega,hsn (hrow.2 ⟨k1,fun h=>absurd h k2,fun h=>absurd h k4⟩),S.tl⟩
   ·refine Wb e17 ?_
    omega
  by_cases k3:(0:Int)<(wt:Int)
  ·refine Wc F @i0.enc.eq_1 ?_
   refine cI (X2 x _) ?_
   rintro _ h ⟨rfl,f1⟩
   have S:=S.frame f1
   clear f1
   rw[dT k4]
   refine Wa ?_
   exact hK _ _ ⟨by rw[dF (hbad fun h=>by have:=((hrow.1 h).2.2 k4).1;omega)],S.tl.tl.dropL.d1.d1⟩
  by_cases k5:0≤x.r.res
  case neg=>
   refine Wc F @i0.enc.eq_1 ?_
   refine cI (X2 x _) ?_
   rintro _ h ⟨rfl,f1⟩
   have S:=S.frame f1
   clear f1
   rw[dT k4]
   ((try clear F);have F:=S.fx)
   refine Wd F @i0.enc.eq_1 e17 ?_
   refine hJ _ _ ?_ ?_
   ·refine We e3 e4 e15 e16 ?_
    exact⟨i+1,rfl,by omega,hsn (hrow.2 ⟨k1,fun h=>absurd h k2,fun _=>⟨by omega,fun h=>absurd h k5⟩⟩),S.tl⟩
   ·refine Wb e17 ?_
    omega
  refine Wc F @i0.enc.eq_1 ?_
  refine cI (X2 x _) ?_
  rintro _ h ⟨rfl,f1⟩
  have S:=S.frame f1
  clear f1
  rw[dT k4]
  ((try clear F);have F:=S.fx)
  refine Wd F @i0.enc.eq_1 e3 ?_
  obtain⟨M,S1⟩:=Z4 S (X:=t6 k s.K) (by simp)
  refine cI (a2W x.r.res S1) ?_
  clear S1 M
  rintro _ _ ⟨rfl,rfl⟩
  by_cases k6:i5 s.K x.r.res=8
  ·refine Wc k6 e17 ?_
   refine hJ _ _ ?_ ?_
   ·refine We e3 e4 e15 e16 ?_
    exact⟨i+1,rfl,by omega,hsn (hrow.2 ⟨k1,fun h=>absurd h k2,fun _=>⟨by omega,fun _=>k6⟩⟩),S.tl⟩
   ·refine Wb e17 ?_
    omega
  ·refine Wa ?_
   exact hK _ _ ⟨by rw[dF (hbad fun h=>k6 (((hrow.1 h).2.2 k4).2 (by omega)))],S.tl.tl.dropL.d1.d1⟩
 obtain rfl:i=vs.length:=by omega
 have hfin:a1x s:=fun j r hr=>hok j r (by
  have h1:j<s.R.length:=by
   by_cases hj:j<s.R.length
   ·exact hj
   ·rw[Y1 (by omega)]at hr;cases hr
  rw[←hvs,l_z]at h1
  exact h1) hr
 refine Wa ?_
 exact hK _ _ ⟨by rw[dT hfin],S.tl.dropL.d1.d1⟩
theorem a8A(W:Aud D U s)(S:St h0 h (B5 p D u s::l)):
  d8 Tryz.prog 34 [.pointer (some ⟨p,0,none⟩)] h fun v h'=>v= .bool (dcd (a6F s))∧St h0 h' (B5 p D u s::l):=by
 have hrl:=W.rl
 have hol:=W.ol
 refine EN i34.eq_1 fun K hK=>Wa ?_
 refine cI (a4i S (by omega) W.len) ?_
 clear S
 intro v h S
 obtain⟨vs,hvs,S⟩:=St.rmas.1 S
 have hvl:vs.length≤100:=by rw[←l_z (f:=i0.r),hvs];omega
 obtain⟨B,d,rfl⟩:=S.sl
 refine Wa ?_
 refine lI (fun ρ h'=>ρ 0= .pointer (some ⟨p,0,none⟩)∧ρ 10= .slice B vs.length d∧ρ 11= .int .i64 vs.length∧∃i:Nat,ρ 12= .int .i64 i∧i≤vs.length∧(∀r∈(vs.take i).map i0.r,V1 r)∧
  St h0 h' (i4 i0.enc 14 136 (.slice B vs.length d) vs::(vs.map j2++(B5 p D u s::l)))) (fun ρ _=>vs.length-(iv (ρ 12)).toNat) ?_ ?_
 ·refine Wa ?_
  exact⟨0,rfl,by omega,by simp,S⟩
 clear S
 rintro ρ h J hJ ⟨e0,e10,e11,i,e12,hi,hok,S⟩
 refine Wc e11 e12 ?_
 refine cD (fun hlt=> ?_) (fun hlt=> ?_)
 ·have hil:i<vs.length:=by omega
  have hmem:=l_v hil
  obtain⟨b1,o1,hA,q1⟩:=(S.arr i0.enc_len).at hil
  have hmr:vs[i].r∈s.R:=by rw[←hvs];exact a0I hmem
  have hsn:=a5I hil hok
  generalize vs[i]=x at*
  refine We e10 e12 hA q1 ?_
  (revert S;(try clear F);refine AL fun q h S F=> ?_)
  refine Wc F @i0.enc.eq_1 ?_
  refine tS S rfl rfl (l_a rfl) ?_
  clear S F q1
  intro h S
  replace S:=S.nm
  have S:St h0 h (d9 q x.enc 136::_):=S
  ((try clear F);have F:=S.fx)
  refine Wc F @i0.enc.eq_1 ?_
  refine cI (X2 x _) ?_
  rintro _ h ⟨rfl,f1⟩
  have S:=S.frame f1
  clear f1
  by_cases k4:V1 x.r
  case neg=>
   rw[dF k4]
   refine Wa ?_
   exact hK _ _ ⟨by rw[dF fun h=>k4 (h.1 _ hmr)],S.tl.tl.dropL⟩
  rw[dT k4]
  refine Wb e12 ?_
  refine hJ _ _ ?_ ?_
  ·refine Wd e0 e10 e11 ?_
   exact⟨i+1,rfl,by omega,hsn k4,S.tl⟩
  ·refine Wb e12 ?_
   omega
 obtain rfl:i=vs.length:=by omega
 rw[C9,hvs]at hok
 have S:=S.tl.dropL
 clear hJ
 refine Wb e0 ?_
 refine cI (a6L S hol) ?_
 clear S
 rintro _ h ⟨o,rfl,S⟩
 refine Wa ?_
 refine cI (c1j S hol) ?_
 clear S
 intro v h S
 obtain⟨C,e,rfl⟩:=S.sl
 refine Wa ?_
 refine lI (fun ρ h'=>ρ 22= .slice C s.O.length e∧ρ 23= .int .i64 s.O.length∧∃i:Nat,ρ 24= .int .i64 i∧i≤s.O.length∧(∀m∈s.O.take i,m.kind<1)∧
  St h0 h' (i4 Msg.enc 6 128 (.slice C s.O.length e) s.O::D8 o s.key s.O::B5 p D u s::l)) (fun ρ _=>s.O.length-(iv (ρ 24)).toNat) ?_ ?_
 ·refine Wa ?_
  exact⟨0,rfl,by omega,by simp,S⟩
 clear S e0 e10 e11 e12
 rintro ρ h J hJ ⟨e22,e23,i,e24,hi,hok2,S⟩
 refine Wc e23 e24 ?_
 refine cD (fun hlt=> ?_) (fun hlt=> ?_)
 ·have hil:i<s.O.length:=by omega
  obtain⟨b1,o1,hA,q1⟩:=(S.arr enc_len).at hil
  have hmem:=l_v hil
  have hsn:s.O[i].kind<1→∀m∈s.O.take (i+1),m.kind<1:=fun hx m hm=>by
   rw[l_t hil]at hm
   rcases List.mem_append.1 hm with hm|hm
   ·exact hok2 m hm
   ·rw[U1]at hm;rw[hm];exact hx
  generalize s.O[i]=m at*
  refine We e22 e24 hA q1 ?_
  (revert S;(try clear F);refine AL fun q h S F=> ?_)
  refine Wc F @Msg.enc.eq_1 ?_
  (revert S;(try clear F);refine ST fun h S F=> ?_)
  by_cases k1:1≤m.kind
  ·refine Wb F ?_
   exact hK _ _ ⟨by rw[dF fun h=>by have:=h.2 _ hmem;omega],S.tl.tl.tl⟩
  refine Wc F e24 ?_
  refine hJ _ _ ?_ ?_
  ·refine Wc e22 e23 ?_
   exact⟨i+1,rfl,by omega,hsn (by omega),S.tl⟩
  ·refine Wb e24 ?_
   omega
 obtain rfl:i=s.O.length:=by omega
 rw[C9]at hok2
 refine Wa ?_
 exact hK _ _ ⟨by rw[dT ⟨hok,hok2⟩],S.tl.tl⟩
end
end
section
def V2:List MapEntry→Int→Option Value
 | [],_=>none
 |e::es,k=>match e.key with
  | .int _ a=>if a=k then some e.val else V2 es k
  |_=>V2 es k
def a6q(es:List MapEntry):Prop:=∀e∈es,∃a,e.key= .int .i64 a
def b1U(b:Nat)(f:Int→Option Value):HP where
 P h B:=B=[b]∧∃es cl,h[b]? =some (.map es cl)∧a6q es.toList∧∀k,V2 es.toList k=f k
 loc:=fun⟨e,es,cl,hb,hr⟩ hk=>⟨e,es,cl,by subst e;rw[hk b (by simp)];exact hb,hr⟩
 lt:=fun⟨e,es,cl,hb,_⟩ b' hm=>by subst e;simp at hm;subst hm;exact(Array.getElem?_eq_some_iff.1 hb).1
theorem a1K(k:Int):∀(es:List MapEntry),a6q es→∀i,(Instr.findNow (.int .i64) (.int .i64 k) es i=some none∧V2 es k=none)∨
  ∃j e,es[j]? =some e∧Instr.findNow (.int .i64) (.int .i64 k) es i=some (some (i+j,e.val))∧V2 es k=some e.val∧e.key= .int .i64 k∧
   ∀w q,V2 (es.modify j fun e=>{e with key:= .int .i64 k,val:=w}) q=if q=k then some w else V2 es q
 | [],_,i=> .inl ⟨rfl,rfl⟩
 |e::es,h,i=>by
  obtain⟨a,ha⟩:=h e (by simp)
  by_cases hk:a=k
  ·subst hk
   refine .inr ⟨0,e,rfl,?_,?_,ha,fun w q=> ?_⟩
   ·simp[Instr.findNow,ha,Instr.sameNow]
   ·simp[V2,ha]
   ·simp only[List.modify_zero_cons,V2,ha]
    by_cases hq:a=q
    ·subst hq;simp
    ·rw[if_neg hq,if_neg (fun h=>hq h.symm),if_neg hq]
  ·have hne:(k==a)=false:=by simp;exact fun h=>hk h.symm
   have hf:∀i,Instr.findNow (.int .i64) (.int .i64 k) (e::es) i=Instr.findNow (.int .i64) (.int .i64 k) es (i+1):=fun i=>by
    simp[Instr.findNow,ha,Instr.sameNow,hne]
   rcases a1K k es (fun x hx=>h x (by simp[hx])) (i+1)with⟨h1,h2⟩|⟨j,x,h1,h2,h3,h4,h5⟩
   ·exact .inl ⟨by rw[hf];exact h1,by simp only[V2,ha,if_neg hk];exact h2⟩
   ·refine .inr ⟨j+1,x,by simpa using h1,by rw[hf,h2];congr 2;simp;omega,by simp only[V2,ha,if_neg hk];exact h3,h4,fun w q=> ?_⟩
    simp only[List.modify_succ_cons,V2,ha,h5]
    by_cases hq:a=q
    ·subst hq;simp[hk]
    ·simp[hq]
theorem a8P{P:Program}{kt:TypeId}(hk:P.underlying kt=some (.int .i64))(b:Bool)(n:Nat)(k:Int)(w:World):(Instr.checkKey b (n+1) kt (.int .i64 k)).run P w= .ok () w:=by
 simp only[Instr.checkKey,Sem.run_bind,l6 hk,Result.andThen_ok,Sem.run_pure]
theorem a4w{P:Program}{kt:TypeId}(hk:P.underlying kt=some (.int .i64)){k:Int}{es:List MapEntry}{r:Option (Nat×Value)}(hr:Instr.findNow (.int .i64) (.int .i64 k) es 0=some r)(w:World):(Instr.findKey kt (.int .i64 k) es).run P w= .ok r w:=by
 simp only[Instr.findKey,Sem.run_bind,l6 hk,Result.andThen_ok,hr,Sem.run_pure]
theorem c1i{P:Program}{t:TypeId}{z:Value}(h:(P.info? t).bind (·.zero)=some z)(w:World):(zeroValue t).run P w= .ok z w:=by
 cases hi:P.info? t with
 |none=>simp[hi]at h
 |some i=>
  have hv:i.zero=some z:=by simpa[hi]using h
  simp[zeroValue,typeInfo,hi,hv]
def c5p(ρ:Env):Operand→Value
 | .tmp t=>ρ t
 | .const v=>v
 | .global g=> .pointer (some ⟨g,0,none⟩)
 | .func f=> .func (.func f) #[] #[]
theorem a1L{P:Program}{w:World}{r:Nat}{es:Array MapEntry}{cl:Nat}(h:w.heap[r]? =some (.map es cl)):(getObj r).run P w= .ok (.map es cl) w:=by simp[getObj,Sem.run,h]
theorem a7Y{P:Program}{w:World}{r:Nat}{es:Array MapEntry}{cl:Nat}(o':Obj)(h:w.heap[r]? =some (.map es cl)):(setObj r o').run P w= .ok () {w with heap:=w.heap.setIfInBounds r o'}:=by
 simp[setObj,Sem.run,h]
section
variable{P:Program}{o:Oper}{ρ:Env}{h0 h:c9}{l:List HP}{K:Value→c9→Prop}{s1:Tag ρ}{s2:Tag h}{s3:Tag K}
theorem b6j{t:TypeId}(ho:o.op= .makeMap t none)(S:St h0 h l)(hk:∀b h',St h0 h' (b1U b (fun _=>none)::l)→K (.map (some b)) h'):b6i P o ρ h K s1 s2 s3:=by
 intro w a hw _
 refine⟨.map (some w.heap.size),{w with heap:=w.heap.push (.map #[] 0)},.inl ?_,⟨rfl,rfl,rfl⟩,?_⟩
 ·simp[execOp,ho,Instr.makeMap]
 ·subst hw
  refine hk _ _ (S.new ((Fr.refl _ _).push _) (C:=[w.heap.size]) ⟨rfl,#[],0,by simp,fun e he=>by simp at he,fun k=>rfl⟩ (by simp))
theorem b8d{t kt et:TypeId}{m n b:Nat}{k:Int}{f:Int→Option Value}{z:Value}(ho:o.op= .lookup t (.tmp m) (.tmp n) false)(ht:P.underlying t=some (.map kt et))(hkt:P.underlying kt=some (.int .i64))(hz:∀w,(zeroValue et).run P w= .ok z w)
  (hm:ρ m= .map (some b)) (hn:ρ n= .int .i64 k) (S:St h0 h (b1U b f::l)) (hk:K ((f k).getD z) h):b6i P o ρ h K s1 s2 s3:=by
 intro w a hw hops
 have hx:a.eval (.tmp m)= .map (some b):=by
  rw[←hm]
  exact hops (.tmp m) (by rw[ho];simp[Op.operands])
 have hy:a.eval (.tmp n)= .int .i64 k:=by
  rw[←hn]
  exact hops (.tmp n) (by rw[ho];simp[Op.operands])
 obtain⟨B,⟨_,es,cl,hb,hi,hl⟩,_⟩:=S.hd
 rw[←hw]at hb
 have hc:(Instr.checkKey es.isEmpty 10000 kt (.int .i64 k)).run P w= .ok () w:=a8P hkt _ 9999 k w
 refine⟨(f k).getD z,w,.inl ?_,⟨rfl,rfl,rfl⟩,by rw[hw];exact hk⟩
 rcases a1K k es.toList hi 0 with⟨h1,h2⟩|⟨j,e,_,h1,h2,_,_⟩
 ·rw[hl]at h2
  simp[execOp,ho,Instr.lookup,l6 ht,hx,hy,a1L hb,hc,a4w hkt h1,hz,h2]
 ·rw[hl]at h2
  simp[execOp,ho,Instr.lookup,l6 ht,hx,hy,a1L hb,hc,a4w hkt h1,h2]
theorem c1z{t kt et:TypeId}{m n b:Nat}{k:Int}{f:Int→Option Value}{v:Value}{x:Operand}(ho:o.op= .mapUpdate t (.tmp m) (.tmp n) x)(ht:P.underlying t=some (.map kt et))(hkt:P.underlying kt=some (.int .i64))
  (hm:ρ m= .map (some b)) (hn:ρ n= .int .i64 k) (hv:c5p ρ x=v)
  (S:St h0 h (b1U b f::l)) (hk:∀h',St h0 h' (b1U b (fun q=>if q=k then some v else f q)::l)→K undef h'):b6i P o ρ h K s1 s2 s3:=by
 intro w a hw hops
 have hx:a.eval (.tmp m)= .map (some b):=by
  rw[←hm]
  exact hops (.tmp m) (by rw[ho];simp[Op.operands])
 have hy:a.eval (.tmp n)= .int .i64 k:=by
  rw[←hn]
  exact hops (.tmp n) (by rw[ho];simp[Op.operands])
 have hz:a.eval x=v:=by
  have hh:=hops x (by rw[ho];simp[Op.operands])
  rw[←hv,hh]
  cases x<;>rfl
 obtain⟨B,⟨hB,es,cl,hb,hi,hl⟩,_,hup⟩:=S.hd
 rw[←hw]at hb
 have hlt:b<w.heap.size:=(Array.getElem?_eq_some_iff.1 hb).1
 have hc:(Instr.checkKey false 10000 kt (.int .i64 k)).run P w= .ok () w:=a8P hkt _ 9999 k w
 have hgo:∀o',(∃es cl,o'=Obj.map es cl∧a6q es.toList∧∀q,V2 es.toList q=if q=k then some v else f q)→K undef (w.heap.setIfInBounds b o'):=fun o' ⟨es',cl',ho',hi',hl'⟩=>by
  refine hk _ (hup _ (b1U b _) [b] ?_ ⟨rfl,es',cl',?_,hi',hl'⟩ (fun b' hm=> .inl (by rw[hB];exact hm)))
  ·subst hw hB
   exact(Fr.refl _ _).set (.inl (by simp)) _
  ·rw[ho']
   simp[hlt]
 rcases a1K k es.toList hi 0 with⟨h1,h2⟩|⟨j,e,he,h1,h2,h3,h4⟩
 ·refine⟨undef,{w with heap:=w.heap.setIfInBounds b (.map (es.push {key:= .int .i64 k,val:=v,born:=cl}) (cl+1))},.inr ⟨?_,rfl⟩,⟨rfl,rfl,rfl⟩,hgo _ ⟨_,_,rfl,?_,?_⟩⟩
  ·simp[execOp,ho,Instr.mapUpdate,l6 ht,hx,hy,hz,a1L hb,hc,a4w hkt h1,a7Y _ hb]
  ·intro y hy'
   rw[Array.toList_push]at hy'
   rcases List.mem_append.1 hy' with hy'|hy'
   ·exact hi y hy'
   ·simp at hy';exact⟨k,by rw[hy']⟩
  ·intro q
   have happ:∀(L:List MapEntry),a6q L→V2 L k=none→V2 (L++ [{key:= .int .i64 k,val:=v,born:=cl}]) q=if q=k then some v else V2 L q:=by
    intro L
    induction L with
    |nil=>
     intro _ _
     simp only[l_k,V2]
     by_cases hq:k=q
     ·subst hq;simp
     ·rw[if_neg hq,if_neg (fun h=>hq h.symm)]
    |cons y L ih=>
     intro hL hn
     obtain⟨aa,ha⟩:=hL y (by simp)
     simp only[l_j,V2,ha]at hn⊢
     by_cases hq:aa=k
     ·rw[if_pos hq]at hn;cases hn
     ·rw[if_neg hq]at hn
      rw[ih (fun e he=>hL e (by simp[he])) hn]
      by_cases hq2:aa=q
      ·subst hq2;simp[hq]
      ·simp[hq2]
   rw[Array.toList_push,happ _ hi h2,hl]
 ·have hget:es[j]? =some e:=by rw[←he,a5u]
  refine⟨undef,{w with heap:=w.heap.setIfInBounds b (.map (es.modify j fun e=>{e with key:= .int .i64 k,val:=v}) cl)},.inr ⟨?_,rfl⟩,⟨rfl,rfl,rfl⟩,hgo _ ⟨_,_,rfl,?_,?_⟩⟩
  ·simp[execOp,ho,Instr.mapUpdate,l6 ht,hx,hy,hz,a1L hb,hc,a4w hkt h1,a7Y _ hb,hget,h3,Instr.keyThatStays,Instr.sameBits]
  ·intro y hy'
   rw[Array.toList_modify]at hy'
   obtain⟨i,hil,rfl⟩:=R7 hy'
   rw[List.getElem_modify]
   split
   ·exact⟨k,rfl⟩
   ·exact hi _ (l_v _)
  ·intro q
   rw[Array.toList_modify,h4,hl]
end
end
section
set_option maxHeartbeats 16000000
def a1X(st g pl:Int):Prop:=if st=1∨st=2 then pl=0 else if st=3 then pl=1 else if st=4 then(if g<0 then pl=2 else pl≠1∧pl≠2)else True
theorem b6n(st g pl:Int)(h:c9):d8 Tryz.prog 76 [.int .i64 st,.int .i64 g,.int .i64 pl] h fun v h'=>v= .bool (dcd (a1X st g pl))∧h'=h:=by
 have hdef:a1X st g pl=if st=1∨st=2 then pl=0 else if st=3 then pl=1 else if st=4 then(if g<0 then pl=2 else pl≠1∧pl≠2)else True:=rfl
 by_cases s1:st=1
 ·rw[if_pos (.inl s1)]at hdef
  rw[hdef]
  refine EN i76.eq_1 fun K hK=> ?_
  refine Wb s1 ?_
  exact hK _ _ ⟨rfl,rfl⟩
 by_cases s2:st=2
 ·rw[if_pos (.inr s2)]at hdef
  rw[hdef]
  refine EN i76.eq_1 fun K hK=> ?_
  refine Wc s1 s2 ?_
  exact hK _ _ ⟨rfl,rfl⟩
 rw[if_neg (fun h=>h.elim s1 s2)]at hdef
 by_cases s3:st=3
 ·rw[if_pos s3]at hdef
  rw[hdef]
  refine EN i76.eq_1 fun K hK=> ?_
  refine Wd s1 s2 s3 ?_
  exact hK _ _ ⟨rfl,rfl⟩
 rw[if_neg s3]at hdef
 by_cases s4:st=4
 ·rw[if_pos s4]at hdef
  by_cases g0:g<0
  ·rw[if_pos g0]at hdef
   rw[hdef]
   refine EN i76.eq_1 fun K hK=> ?_
   refine Wf s1 s2 s3 s4 g0 ?_
   exact hK _ _ ⟨rfl,rfl⟩
  rw[if_neg g0]at hdef
  rw[hdef]
  by_cases p1:pl=1
  ·refine EN i76.eq_1 fun K hK=> ?_
   refine Wg s1 s2 s3 s4 g0 p1 ?_
   exact hK _ _ ⟨by rw[dF fun h=>h.1 p1],rfl⟩
  by_cases p2:pl=2
  ·refine EN i76.eq_1 fun K hK=> ?_
   refine Wh s1 s2 s3 s4 g0 p1 p2 ?_
   exact hK _ _ ⟨by rw[dF fun h=>h.2 p2],rfl⟩
  refine EN i76.eq_1 fun K hK=> ?_
  refine Wh s1 s2 s3 s4 g0 p1 p2 ?_
  exact hK _ _ ⟨by rw[dT ⟨p1,p2⟩],rfl⟩
 rw[if_neg s4]at hdef
 rw[hdef]
 refine EN i76.eq_1 fun K hK=> ?_
 refine We s1 s2 s3 s4 ?_
 exact hK _ _ ⟨by rw[dT trivial],rfl⟩
def b4e(K:List KU)(i:Nat)(u:Unt):Prop:=0≤u.ord→3≤i5 K i→i5 K i≤5→(a2P K i).1=true∧(a2P K i).2=true
noncomputable def O0(R:List Ret):List Int:=(R.filter fun r=> !dcd (V1 r)).flatMap Ret.us
noncomputable def a1t(U:List Unt)(s:Sag):Prop:=(∀(i:Nat) (u:Unt),U[i]? =some u→b4e s.K i u)∧(O0 s.R).Nodup∧∀r∈s.R,¬V1 r→∀j,j<r.us.length→a1X r.state (r.gs.getD j 0) (i5 s.K (r.us.getD j 0))
noncomputable def a3y(L:List Int):Int→Option Value:=fun k=>if dcd (k∈L)=true then some (.bool true)else none
theorem b3t(L:List Int)(k:Int):(fun q=>if q=k then some (.bool true)else a3y L q)=a3y (L++ [k]):=by
 funext q
 unfold a3y
 by_cases e:q=k
 ·rw[if_pos e,if_pos (dT (by simp[e]))]
 ·rw[if_neg e]
  by_cases hq:q∈L
  ·rw[if_pos (dT hq),if_pos (dT (by simp[hq]))]
  ·rw[if_neg (by rw[dF hq];decide),if_neg (by rw[dF (by simp[hq,e])];decide)]
theorem b3u{R:List Ret}{i:Nat}(hi:i<R.length):O0 (R.take (i+1))=O0 (R.take i)++if dcd (V1 R[i])=true then []else R[i].us:=by
 unfold O0
 rw[l_t hi,List.filter_append,a1p]
 congr 1
 cases hd:dcd (V1 R[i])<;>simp[hd]
theorem b9e{R:List Ret}(i:Nat):∃M,O0 R=O0 (R.take i)++M:=by
 refine⟨O0 (R.drop i),?_⟩
 unfold O0
 conv=>lhs;rw[←G0 i R]
 rw[List.filter_append,a1p]
section
variable{h0 h:c9}{l:List HP}{p:Nat}{D:Cfg}{s:Sag}{U:List Unt}{A:Option Addr}{c:Nat}
theorem a6I(W:Aud D U s)(S:St h0 h (B5 p D (.slice A U.length c) s::a0J D (.slice A U.length c) U::l)):
  d8 Tryz.prog 32 [.pointer (some ⟨p,0,none⟩)] h fun v h'=>v= .bool (dcd (a1t U s))∧St h0 h' (B5 p D (.slice A U.length c) s::a0J D (.slice A U.length c) U::l):=by
 have hrl:=W.rl
 have hkl:=W.kl
 have hul:=W.ul
 refine EN i32.eq_1 fun K hK=>Wa ?_
 refine cI (a8I S (by omega)) ?_
 clear S
 rintro _ h ⟨k,rfl,S⟩
 refine Wa ?_
 refine cI (b1c S.p1 (fun h' S=>(sAa (D:=D) (U:=U) (A:=A) (c:=c) S (by simp)).2) (by omega)) ?_
 clear S
 intro v h S
 obtain⟨A',c',rfl⟩:=S.sl
 refine Wa ?_
 refine lI (fun ρ h'=>ρ 0= .pointer (some ⟨p,0,none⟩)∧ρ 3= .pointer (some ⟨k,0,none⟩)∧ρ 19= .slice A' U.length c'∧ρ 20= .int .i64 U.length∧∃i:Nat,ρ 21= .int .i64 i∧i≤U.length∧(∀(j:Nat) (u:Unt),j<i→U[j]? =some u→b4e s.K j u)∧
  St h0 h' (i4 Unt.enc 4 97 (.slice A' U.length c') U::t6 k s.K::B5 p D (.slice A U.length c) s::a0J D (.slice A U.length c) U::l)) (fun ρ _=>U.length-(iv (ρ 21)).toNat) ?_ ?_
 ·refine Wa ?_
  exact⟨0,rfl,by omega,fun j u hj=>absurd hj (by omega),by(exact PM S)⟩
 clear S
 rintro ρ h J hJ ⟨e0,e3,e19,e20,i,e21,hi,hok,S⟩
 refine Wc e20 e21 ?_
 refine cD (fun hlt=> ?_) (fun hlt=> ?_)
 ·have hil:i<U.length:=by omega
  obtain⟨b1,o1,hA,q1⟩:=(S.arr Unt.enc_len).at hil
  have hat:U[i]? =some U[i]:=l_r hil
  have hbad:¬b4e s.K i U[i]→¬a1t U s:=fun hn h=>hn (h.1 i _ hat)
  have hsn:b4e s.K i U[i]→∀(j:Nat) (u:Unt),j<i+1→U[j]? =some u→b4e s.K j u:=fun hx j u hj hr=>by
   by_cases e:j=i
   ·rw[e]at hr⊢
    rw[hat]at hr
    cases hr
    exact hx
   ·exact hok j u (by omega) hr
  generalize U[i]=x at*
  refine We e19 e21 hA q1 ?_
  (revert S;(try clear F);refine AL fun q h S F=> ?_)
  refine Wc F @Unt.enc.eq_1 ?_
  (revert S;(try clear F);refine ST fun h S F=> ?_)
  refine Wb e3 ?_
  refine cI (b7V (i:Int) S.p2) ?_
  rintro _ _ ⟨rfl,rfl⟩
  refine Wb e3 ?_
  refine cI (a2W (i:Int) S.p2) ?_
  rintro _ _ ⟨rfl,rfl⟩
  have hrow:b4e s.K i x↔(0≤x.ord→3≤i5 s.K i→i5 s.K i≤5→(a2P s.K i).1=true∧(a2P s.K i).2=true):=Iff.rfl
  generalize hpl:i5 s.K (i:Int)=pl at*
  rcases hs:a2P s.K (i:Int)with⟨r1,g1⟩
  rw[hs]at hrow
  by_cases k1:0≤x.ord
  case neg=>
   refine Wc F e21 ?_
   refine hJ _ _ ?_ ?_
   ·refine We e0 e3 e19 e20 ?_
    exact⟨i+1,rfl,by omega,hsn (hrow.2 fun h=>absurd h k1),S.tl⟩
   ·refine Wb e21 ?_
    omega
  by_cases k2:3≤pl
  case neg=>
   refine Wc F e21 ?_
   refine hJ _ _ ?_ ?_
   ·refine We e0 e3 e19 e20 ?_
    exact⟨i+1,rfl,by omega,hsn (hrow.2 fun _ h=>absurd h k2),S.tl⟩
   ·refine Wb e21 ?_
    omega
  by_cases k3:pl≤5
  case neg=>
   refine Wc F e21 ?_
   refine hJ _ _ ?_ ?_
   ·refine We e0 e3 e19 e20 ?_
    exact⟨i+1,rfl,by omega,hsn (hrow.2 fun _ _ h=>absurd h k3),S.tl⟩
   ·refine Wb e21 ?_
    omega
  cases r1
  ·refine Wb F ?_
   exact hK _ _ ⟨by rw[dF (hbad fun h=>by have:=(hrow.1 h k1 k2 k3).1;cases this)],S.tl.tl.tl⟩
  cases g1
  ·refine Wb F ?_
   exact hK _ _ ⟨by rw[dF (hbad fun h=>by have:=(hrow.1 h k1 k2 k3).2;cases this)],S.tl.tl.tl⟩
  refine Wc F e21 ?_
  refine hJ _ _ ?_ ?_
  ·refine We e0 e3 e19 e20 ?_
   exact⟨i+1,rfl,by omega,hsn (hrow.2 fun _ _ _=>⟨rfl,rfl⟩),S.tl⟩
  ·refine Wb e21 ?_
   omega
 obtain rfl:i=U.length:=by omega
 have hfin:∀(j:Nat) (u:Unt),U[j]? =some u→b4e s.K j u:=fun j u hr=>hok j u (by
  by_cases hj:j<U.length
  ·exact hj
  ·rw[Y1 (by omega)]at hr;cases hr) hr
 have S:=S.tl
 clear hJ hok e19 e20 e21
 refine Wa ?_
 refine b6j rfl S ?_
 clear S
 intro m h S
 rw[show(fun _=>none:Int→Option Value)=a3y (O0 (s.R.take 0))from by funext q;simp[a3y,O0,a8U]]at S
 refine Wb e0 ?_
 refine cI (a4i S.p2 (by omega) W.len) ?_
 clear S
 intro v h S
 obtain⟨vs,hvs,S⟩:=St.rmas.1 S
 have hvl:vs.length≤100:=by rw[←l_z (f:=i0.r),hvs];omega
 obtain⟨B,d,rfl⟩:=S.sl
 refine Wa ?_
 refine lI (fun ρ h'=>ρ 3= .pointer (some ⟨k,0,none⟩)∧ρ 9= .map (some m)∧ρ 56= .slice B vs.length d∧ρ 57= .int .i64 vs.length∧∃i:Nat,ρ 58= .int .i64 i∧i≤vs.length∧(O0 (s.R.take i)).Nodup∧(∀r∈(vs.take i).map i0.r,¬V1 r→∀j,j<r.us.length→a1X r.state (r.gs.getD j 0) (i5 s.K (r.us.getD j 0)))∧
  St h0 h' (b1U m (a3y (O0 (s.R.take i)))::i4 i0.enc 14 136 (.slice B vs.length d) vs::(vs.map j2++(B5 p D (.slice A U.length c) s::t6 k s.K::a0J D (.slice A U.length c) U::l)))) (fun ρ _=>vs.length-(iv (ρ 58)).toNat) ?_ ?_
 ·refine Wb e3 ?_
  refine⟨0,rfl,by omega,by simp[O0],by simp,?_⟩
  exact S.perm ((List.Perm.cons _ ((List.Perm.append_left _ (List.Perm.swap _ _ _)).trans List.perm_middle)).trans (List.Perm.swap _ _ _))
 clear S e0 e3
 rintro ρ h J hJ ⟨e3,e9,e56,e57,i,e58,hi,hnd,hok,S⟩
 refine Wc e57 e58 ?_
 refine cD (fun hlt=> ?_) (fun hlt=> ?_)
 ·have hil:i<vs.length:=by omega
  have hmem:=l_v hil
  obtain⟨b1,o1,hA,q1⟩:=(S.p1.arr i0.enc_len).at hil
  have hin:∀{h':c9}{L:List HP},St h0 h' L→(∀x∈vs.map j2,x∈L)→Arr i6 1 h' vs[i].A vs[i].r.us∧Arr i6 1 h' vs[i].B vs[i].r.gs:=fun S hL=>K4 S (hL _ (a0I hmem))
  have hmr:vs[i].r∈s.R:=by rw[←hvs];exact a0I hmem
  obtain⟨hright,hltU⟩:=W.rr _ hmr
  have hsn:=a5I (P:=fun r=>¬V1 r→∀j,j<r.us.length→a1X r.state (r.gs.getD j 0) (i5 s.K (r.us.getD j 0))) hil hok
  have hiR:i<s.R.length:=by rw[←hvs,l_z];exact hil
  have hRi:s.R[i]=vs[i].r:=by simp only[←hvs,Y9]
  have hheld:=b3u hiR
  obtain⟨Mr,hMr⟩:=b9e (R:=s.R) (i+1)
  rw[hRi]at hheld
  generalize vs[i]=x at*
  obtain⟨hn1,hn2,hall⟩:=hright.2.2.2.2.2.2.2.1
  have hn1':=hn1.2
  refine We e56 e58 hA q1 ?_
  (revert S;(try clear F);refine AL fun q h S F=> ?_)
  refine Wc F @i0.enc.eq_1 ?_
  refine tS S rfl rfl (l_a rfl) ?_
  clear S F q1
  intro h S
  replace S:=S.nm
  have S:St h0 h (d9 q x.enc 136::_):=S
  ((try clear F);have F:=S.fx)
  refine Wc F @i0.enc.eq_1 ?_
  refine cI (X2 x _) ?_
  rintro _ h ⟨rfl,f1⟩
  have S:=S.frame f1
  clear f1 F
  by_cases kd:V1 x.r
  ·rw[dT kd]at hheld⊢
   simp only[if_true,D9]at hheld
   rw[←hheld]at S hnd
   refine Wb e58 ?_
   refine hJ _ _ ?_ ?_
   ·refine We e3 e9 e56 e57 ?_
    exact⟨i+1,rfl,by omega,hnd,hsn fun h=>absurd kd h,S.tl⟩
   ·refine Wb e58 ?_
    omega
  rw[dF kd]at hheld⊢
  simp only[Bool.false_eq_true,if_false]at hheld
  have hbadN:¬(O0 (s.R.take i)++x.r.us).Nodup→¬a1t U s:=fun hn h=>hn (by
   have:=h.2.1
   rw[hMr,hheld]at this
   exact(List.nodup_append.1 this).1)
  have hbadT:∀j,j<x.r.us.length→¬a1X x.r.state (x.r.gs.getD j 0) (i5 s.K (x.r.us.getD j 0))→¬a1t U s:=fun j hj hn h=>hn (h.2.2 _ hmr kd j hj)
  ((try clear F);have F:=S.fx)
  refine Wc F @i0.enc.eq_1 ?_
  refine lI (fun ρ' h'=>ρ' 3= .pointer (some ⟨k,0,none⟩)∧ρ' 9= .map (some m)∧ρ' 56=ρ 56∧ρ' 57=ρ 57∧ρ' 58=ρ 58∧ρ' 11= .pointer (some ⟨q,0,none⟩)∧ρ' 65= .slice x.A x.r.us.length x.c∧ρ' 66= .int .i64 x.r.us.length∧∃j:Nat,ρ' 67= .int .i64 j∧j≤x.r.us.length∧(O0 (s.R.take i)++x.r.us.take j).Nodup∧(∀j',j'<j→a1X x.r.state (x.r.gs.getD j' 0) (i5 s.K (x.r.us.getD j' 0)))∧
   St h0 h' (d9 q x.enc 136::b1U m (a3y (O0 (s.R.take i)++x.r.us.take j))::i4 i0.enc 14 136 (.slice B vs.length d) vs::(vs.map j2++(B5 p D (.slice A U.length c) s::t6 k s.K::a0J D (.slice A U.length c) U::l)))) (fun ρ' _=>x.r.us.length-(iv (ρ' 67)).toNat) ?_ ?_
  ·refine Wc e3 e9 ?_
   exact⟨0,rfl,by omega,by simpa using hnd,fun j' h=>absurd h (by omega),by simpa using S⟩
  have p56:=e56
  have p57:=e57
  have p58:=e58
  clear S F e3 e9 e56 e57 e58
  rintro ρ' h J' hJ' ⟨e3,e9,e56,e57,e58,e11,e65,e66,j,e67,hj,hnj,hth,S⟩
  refine Wc e66 e67 ?_
  refine cD (fun hlt2=> ?_) (fun hlt2=> ?_)
  ·have hjl:j<x.r.us.length:=by omega
   have hin':∀{h':c9},St h0 h' (d9 q x.enc 136::b1U m (a3y (O0 (s.R.take i)++x.r.us.take j))::i4 i0.enc 14 136 (.slice B vs.length d) vs::(vs.map j2++(B5 p D (.slice A U.length c) s::t6 k s.K::a0J D (.slice A U.length c) U::l)))→_:=fun {h'} S=>hin (h':=h') S fun z hz=>by simp only[l_e,l_y];exact .inr (.inr (.inr (.inl hz)))
   obtain⟨b2,o2,hA2,q2⟩:=(hin' S).1.at hjl
   obtain⟨b3,o3,hA3,q3⟩:=(hin' S).2.at (i:=j) (by omega)
   have q2:=rP0 q2 (by omega)
   have q3:=rP0 q3 (by omega)
   simp only[i6,l_o,m9]at q2 q3
   rw[←l7]at q2 q3
   have htk:x.r.us.take (j+1)=x.r.us.take j++ [x.r.us.getD j 0]:=by rw[l_t hjl,l7 hjl]
   refine Wf e65 e67 hA2 q2 @m9 ?_
   have hI:(fun h'=>blk h' q=some (x.enc,136,(0,0))∧rd1 h' (.pointer (some ⟨b3,o3+j,none⟩))=some (.int .i64 (x.r.gs.getD j 0))) h:=⟨S.blk,q3⟩
   have r6:∀K t,j8 (fun h'=>blk h' q=some (x.enc,136,(0,0))∧rd1 h' (.pointer (some ⟨b3,o3+j,none⟩))=some (.int .i64 (x.r.gs.getD j 0))) (fun h'=>rd1 h' (.pointer (some ⟨q,6,none⟩))) K t=K (.int .i64 x.r.state):=fun K t=>rI (fun h' hh=>by rw[j3 hh.1];rfl) h hI
   have r9:∀K t,j8 (fun h'=>blk h' q=some (x.enc,136,(0,0))∧rd1 h' (.pointer (some ⟨b3,o3+j,none⟩))=some (.int .i64 (x.r.gs.getD j 0))) (fun h'=>rd1 h' (.pointer (some ⟨q,9,none⟩))) K t=K (.slice x.B x.r.gs.length x.d):=fun K t=>rI (fun h' hh=>by rw[j3 hh.1];rfl) h hI
   have rg:∀K t,j8 (fun h'=>blk h' q=some (x.enc,136,(0,0))∧rd1 h' (.pointer (some ⟨b3,o3+j,none⟩))=some (.int .i64 (x.r.gs.getD j 0))) (fun h'=>rd1 h' (.pointer (some ⟨b3,o3+j,none⟩))) K t=K (.int .i64 (x.r.gs.getD j 0)):=fun K t=>rI (fun h' hh=>hh.2) h hI
   refine dI (fun h'=>blk h' q=some (x.enc,136,(0,0))∧rd1 h' (.pointer (some ⟨b3,o3+j,none⟩))=some (.int .i64 (x.r.gs.getD j 0))) hI ?_
   refine We e9 r6 r9 rg ?_
   refine b8d (kt:=3) (et:=4) (z:= .bool false) rfl (by kernel_rfl) (by kernel_rfl) (c1i (by kernel_rfl)) (by(refine Wb e9 ?_);first|rfl|trivial) (by(refine Wa ?_);first|rfl|trivial) S.p1 ?_
   refine⟨hI,?_⟩
   by_cases hm:x.r.us.getD j 0∈O0 (s.R.take i)++x.r.us.take j
   ·rw[show a3y (O0 (s.R.take i)++x.r.us.take j) (x.r.us.getD j 0)=some (.bool true)from if_pos (dT hm),Option.getD_some]
    have hx:¬(O0 (s.R.take i)++x.r.us).Nodup:=fun hn=>by
     rw[←G0 (j+1) x.r.us,htk,←l_q,←l_q]at hn
     have h1:=(List.nodup_append.1 hn).1
     have h2:=(List.nodup_append.1 h1).2.2
     exact h2 _ hm _ (by simp) rfl
    refine Wa ?_
    exact hK _ _ ⟨by rw[dF (hbadN hx)],S.tl.tl.tl.dropL.d1⟩
   rw[show a3y (O0 (s.R.take i)++x.r.us.take j) (x.r.us.getD j 0)=none from if_neg (by rw[dF hm];decide),Option.getD_none]
   refine Wh e3 e11 r6 r9 rg hA3 @m9 ?_
   obtain⟨M,S1⟩:=Z4 S (X:=t6 k s.K) (by simp)
   refine cI (a2W (x.r.us.getD j 0) S1) ?_
   clear S1 M
   rintro _ _ ⟨rfl,rfl⟩
   refine⟨hI,?_⟩
   refine Wa ?_
   refine cI (b6n _ _ _ _) ?_
   rintro _ _ ⟨rfl,rfl⟩
   clear r6 r9 rg hI
   by_cases kt:a1X x.r.state (x.r.gs.getD j 0) (i5 s.K (x.r.us.getD j 0))
   case neg=>
    rw[dF kt]
    refine Wa ?_
    exact hK _ _ ⟨by rw[dF (hbadT j hjl kt)],S.tl.tl.tl.dropL.d1⟩
   rw[dT kt]
   refine Wb e9 ?_
   refine c1z (kt:=3) (et:=4) (v:= .bool true) rfl (by kernel_rfl) (by kernel_rfl) (by(refine Wb e9 ?_);first|rfl|trivial) (by(refine Wa ?_);first|rfl|trivial) rfl S.p1 ?_
   clear S q2 q3
   intro h S
   rw[b3t,l_q,←htk]at S
   refine Wb e67 ?_
   refine hJ' _ _ ?_ ?_
   ·refine Wi e3 e9 e56 e57 e58 e11 e65 (Pc e66 hA2) ?_
    refine⟨j+1,rfl,by omega,?_,fun j' hj'=> ?_,S.p1⟩
    ·rw[htk,←l_q]
     exact List.nodup_append.2 ⟨hnj,by simp,fun a ha b hb=>by
      simp only[U1]at hb
      rintro rfl
      exact hm (hb▸ha)⟩
    ·by_cases e:j'=j
     ·rw[e];exact kt
     ·exact hth j' (by omega)
   ·refine Wb e67 ?_
    omega
  obtain rfl:j=x.r.us.length:=by omega
  rw[C9]at hnj S
  refine Wc e58 p58 ?_
  refine hJ _ _ ?_ ?_
  ·refine Wg e3 e9 e56 p56 e57 p57 ?_
   exact⟨i+1,rfl,by omega,by rw[hheld];exact hnj,hsn fun _=>hth,by rw[hheld];exact S.tl⟩
  ·refine Wc e58 p58 ?_
   omega
 obtain rfl:i=vs.length:=by omega
 have hRl:s.R.length=vs.length:=by rw[←hvs,l_z]
 rw[←hRl,C9]at hnd
 rw[C9,hvs]at hok
 refine Wa ?_
 exact hK _ _ ⟨by rw[dT ⟨hfin,hnd,hok⟩],S.tl.tl.dropL.d1⟩
end
end
section
set_option maxHeartbeats 16000000
section
variable{h0 h:c9}{l:List HP}
end
end
section
set_option maxHeartbeats 32000000
section
variable{D:Cfg}{U:List Unt}{w:Wk}{m:Nat}
theorem b5F:∀{R:List Ret},(∀r∈R,-U3 r+U4 r+r.paid+r.credd+r.given=0)→-S8 U3 R+S8 U4 R+S8 Ret.paid R+S8 Ret.credd R+S8 Ret.given R=0
 | [],_=>rfl
 |x::R,h=>by
  have h1:=b5F (R:=R) fun r hr=>h r (by simp[hr])
  have h2:=h x (by simp)
  simp only[S8,G7,K1]at h1⊢
  omega
structure RowI(D:Cfg)(U:List Unt)(r:Ret):Prop where
 worth:r.worth=J7 D.ps U r
 le:0≤r.worth∧r.worth≤858993459200
 pos:0≤r.paid∧0≤r.credd∧0≤r.given
 told:r.paid+r.credd+r.given≤r.worth
 done:r.state=6→r.paid+r.credd+r.given=r.worth
 none:r.state≠5→r.state≠6→r.paid+r.credd+r.given=0
 rea:isR r.rea
 us:Q6 r.us r.gs
 inn:∀v∈r.us,v<U.length∧0≤(j9 U v).ord
theorem b0C(hD:Stc D U)(I:Inv D U w 1000 0)(W:w.wf U m):∀r∈w.s.R,RowI D U r:=fun r hr=>by
 obtain⟨i,hi,rfl⟩:=R7 hr
 have e:w.s.R[i]=w.R i:=by unfold Wk.R;rw[l_s,l_r hi];rfl
 rw[e]
 have hI:=I.ret i hi
 have hok:=W.rr _ (C5 hi)
 have hw:=I7 hD hI (W.len _ (C5 hi))
 have hrl:=W.rl
 have hn:=hI.nil
 unfold tol at hn
 refine⟨hI.worth,hw,hI.pos,?_,fun h6=> ?_,hn,hI.rea,hok.1,fun v hv=>⟨hok.2 v hv,by rw[hI.uo v hv];exact hI.ord.1⟩⟩
 ·by_cases hf:fin (w.R i)
  ·have:=a4d hD I (by omega) hi hf
   split at this<;>omega
  ·have:=hn (fun h=>hf (.inl h)) (fun h=>hf (.inr h))
   omega
 ·have h1:=I.mon i hi (.inr h6)
  have h2:=(I.cl i hi h6).1
  unfold l8 at h2
  rw[List.length_eq_zero_iff,List.filter_eq_nil_iff]at h2
  rw[a4r fun x hx hr=>by have:=h2 x hx;simp only[decide_eq_true_eq]at this;omega,if_neg (by omega)]at h1
  unfold tol at h1
  omega
theorem c2o(hD:Stc D U)(I:Inv D U w 1000 0)(W:w.wf U m):w.s.led.a+w.s.led.b+w.s.led.c+w.s.led.d+w.s.led.e=0:=by
 obtain⟨a1,a2,a3,a4,a5⟩:=I.led
 have:=b5F (R:=w.s.R) fun r hr=>by
  have h:=b0C hD I W r hr
  have h1:=h.none
  unfold U3 U4 tol
  by_cases hf:fin r
  ·rw[if_pos hf,if_pos hf]
   omega
  ·rw[if_neg hf,if_neg hf]
   have:=h1 (fun e=>hf (.inl e)) (fun e=>hf (.inr e))
   omega
 omega
end
end
end Go.Proofs.YtjagmebglhbdkaaGreat.MX
