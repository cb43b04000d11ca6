import Derived.Test.YtjagmebglhbdkaaGreatK07
import Derived.Test.YtjagmebglhbdkaaGreatK08
namespace Go.Proofs.YtjagmebglhbdkaaGreat.MX
open Go Go.Proofs
set_option linter.unusedSimpArgs false
set_option linter.unusedVariables false
section
def b4Y(T sz bytes:Nat)(z:List Value):MFn:=MFn.mk (j6.seq (j6.ops [j1.mk (some 2) (MOp.p (j7.mov (Opd.c (Value.slice none 0 0)))) none]) (j6.seq (j6.seq (j6.ops [j1.mk (some 3) (MOp.p (j7.mov (Opd.t 0))) none,j1.mk (some 4) (MOp.p (j7.eq EK.s false (Opd.t 3) (Opd.c (Value.slice none 0 0)))) none]) (j6.cond (Opd.t 4) (j6.seq (j6.ops [j1.mk (some 2) (MOp.p (j7.mov (Opd.c (Value.slice none 0 0)))) none]) j6.ret) j6.skip)) (j6.seq (j6.ops [j1.mk (some 5) (MOp.e (Eff.bslice T 0 z [])) none,j1.mk (some 6) (MOp.p (j7.mov (Opd.t 0))) none,j1.mk (some 7) (MOp.e (Eff.append T sz bytes z (Opd.t 5) (Opd.t 6))) none,j1.mk (some 2) (MOp.p (j7.mov (Opd.t 7))) none]) j6.ret))) [a3E.tmp 2] 8
section
variable{P:Program}{α:Type}{enc:α→List Value}{T sz bytes:Nat}{z:List Value}{h:c9}{A:Option Addr}{n c:Nat}{xs:List α}
theorem Q0{f:FuncId}(hc:a1j P f=some (b4Y T sz bytes z))(hsz:∀x,(enc x).length=sz)(h0:0<sz)(hpl:∀x,pC (enc x)=true)(hz:z.length=sz)
  (ha:Arr enc sz h A xs) (hn:n=xs.length) (hA:A=none→xs=[]) (hroom:xs.length*bytes≤140737488355328) (h63:xs.length≤9223372036854775807):
  d8 P f [.slice A n c] h fun v h'=>Own enc sz T h.size h' v xs∧Fr h h' []∧(A=none→v= .slice none 0 0):=by
 refine eK hc (l_a rfl) fun K hK=> ?_
 refine Xb @b4Y.eq_1 ?_
 cases A with
 |none=>
  refine Xa ?_
  exact hK _ _ ⟨.inl ⟨rfl,hA rfl⟩,by(exact FRR),fun _=>rfl⟩
 |some a=>
  refine Xa ?_
  have ho:Own enc sz T h.size (h.push (.cells ([]:List Value).toArray T (0,0))) (.slice (some ⟨h.size,0,none⟩) 0 0) ([]:List α):=
   .inr ⟨h.size,0,[],rfl,x9 _,x9 _,by omega,by simpa using C7 (c:=[]) rfl,by simp⟩
  have ha':Arr enc sz (h.push (.cells ([]:List Value).toArray T (0,0))) (some a) xs:=ha.fr (M:=[]) (by(exact FRR)) (fun _ _ _=>by simp)
  refine a1B (ys:=xs) hsz h0 hpl hz ho (by simp) (by rw[hn];rfl) (E9 hsz ha' hn) (by simpa using hroom) (by simpa using h63) ?_
  intro v' h' ho' hf hb
  refine Xa ?_
  refine hK _ _ ⟨by simpa using ho',⟨?_,?_⟩,fun h1=>by cases h1⟩
  ·have:=hf.size;simp at this;omega
  ·intro b hb1 _
   rw[hf.same b (by simp;omega) (by simp[i9];omega),Array.getElem?_push,if_neg (by omega)]
def a6k(P:Program)(enc:α→List Value)(h:c9)(M:List Nat)(fv:Value)(p:α→Bool):Prop:=
 ∃F caps,fv= .func (.func F) #[] (List.toArray caps)∧a3T P F=true∧∀x h',Fr h h' M→d8 P F (.agg (enc x).toArray::caps) h' fun v h''=>v= .bool (p x)∧Fr h' h'' []
theorem a6k.call{fv:Value}{M:List Nat}{p:α→Bool}(ha:a6k P enc h M fv p){x:α}{h':c9}(hf:Fr h h' M){K:Value→c9→Prop}{s:Tag h'}{t:Tag K}(hk:∀h'',Fr h' h'' []→K (.bool (p x)) h''):a3I P fv [.agg (enc x).toArray] h' K s t:=by
 obtain⟨F,caps,rfl,hok,hc⟩:=ha
 simp only[a3I,a3J]
 refine⟨hok,?_⟩
 have:=hc x h' hf
 simpa using this.mono (fun v h'' ⟨e,f⟩=>e▸hk h'' f)
theorem a6k.fr{fv:Value}{M:List Nat}{p:α→Bool}(ha:a6k P enc h M fv p){h':c9}(hf:Fr h h' M):a6k P enc h' M fv p:=by
 obtain⟨F,caps,rfl,hok,hc⟩:=ha
 exact⟨F,caps,rfl,hok,fun x h'' hf'=>hc x h'' (hf.trans hf')⟩
def K5(p:α→Bool):List α→Int→Int
 | [],_=> -1
 |x::xs,i=>if p x then i else K5 p xs (i+1)
theorem b3w(p:α→Bool)(xs:List α)(i:Nat)(hi:i<xs.length):K5 p (xs.drop i) i=if p xs[i]then(i:Int)else K5 p (xs.drop (i+1)) ((i+1:Nat):Int):=by
 rw[X8 hi]
 rfl
def a2C(sz:Nat):MFn:=MFn.mk (j6.seq (j6.ops [j1.mk (some 4) (MOp.p (j7.mov (Opd.c (Value.int IntKind.i64 0)))) none]) (j6.seq (j6.seq (j6.ops [j1.mk (some 6) (MOp.p (j7.mov (Opd.t 0))) none,j1.mk (some 7) (MOp.p (j7.len false (Opd.t 6))) none,j1.mk (some 8) (MOp.p (j7.mov (Opd.c (Value.int IntKind.i64 0)))) none]) (j6.block 0 (j6.loop (j6.seq (j6.ops [j1.mk (some 9) (MOp.p (j7.bin BinOp.lss (Opd.t 8) (Opd.t 7))) none]) (j6.seq (j6.cond (Opd.t 9) j6.skip (j6.exit 0)) (j6.seq (j6.block 1 (j6.seq (j6.ops [j1.mk (some 10) (MOp.p (j7.mov (Opd.t 8))) none,j1.mk (some 5) (MOp.p (j7.mov (Opd.t 10))) none]) (j6.seq (j6.ops [j1.mk (some 11) (MOp.p (j7.mov (Opd.t 1))) none,j1.mk (some 12) (MOp.p (j7.mov (Opd.t 0))) none,j1.mk (some 13) (MOp.p (j7.mov (Opd.t 5))) none,j1.mk (some 14) (MOp.p (j7.idxS sz (Opd.t 12) (Opd.t 13))) none,j1.mk (some 15) (MOp.r (a2o.loadN sz (Opd.t 14))) none,j1.mk (some 16) (MOp.e (Eff.callv (Opd.t 11) [Opd.t 15])) none]) (j6.cond (Opd.t 16) (j6.seq (j6.ops [j1.mk (some 17) (MOp.p (j7.mov (Opd.t 5))) none,j1.mk (some 4) (MOp.p (j7.mov (Opd.t 17))) none]) j6.ret) j6.skip)))) (j6.ops [j1.mk (some 18) (MOp.p (j7.bin BinOp.add (Opd.t 8) (Opd.c (Value.int IntKind.i64 1)))) none,j1.mk (some 8) (MOp.p (j7.mov (Opd.t 18))) none]))))))) (j6.seq (j6.ops [j1.mk (some 4) (MOp.p (j7.mov (Opd.c (Value.int IntKind.i64 (-1))))) none]) j6.ret))) [a3E.tmp 4] 19
theorem U0{f:FuncId}(hc:a1j P f=some (a2C sz))(ha:Arr enc sz h A xs)(hn:n=xs.length)(h63:xs.length<9223372036854775807){fv:Value}{p:α→Bool}{M:List Nat}(hp:a6k P enc h M fv p):
  d8 P f [.slice A n c,fv] h fun v h'=>v= .int .i64 (K5 p xs 0)∧Fr h h' []:=by
 subst hn
 refine eK hc (l_a rfl) fun K hK=> ?_
 refine Xb @a2C.eq_1 ?_
 refine lI (fun ρ h'=>Fr h h' []∧ρ 0= .slice A xs.length c∧ρ 1=fv∧ρ 7= .int .i64 xs.length∧∃i:Nat,ρ 8= .int .i64 i∧i≤xs.length∧K5 p (xs.drop i) i=K5 p xs 0) (fun ρ _=>xs.length-(iv (ρ 8)).toNat) ?_ ?_
 ·refine Xa ?_
  exact⟨Fr.refl _ _,0,rfl,Nat.zero_le _,rfl⟩
 ·rintro ρ h' J hJ ⟨hf,e0,e1,e7,i,e8,hi,hx⟩
  refine Xc e8 e7 ?_
  (generalize hg:dcd _=bb;cases bb<;>(first|replace hg:=y7 hg|replace hg:=s7 hg)<;>(try simp(disch:=first|omega|assumption|((repeat' (first|exact Fr.refl _ _|assumption|(refine Fr.via (by assumption) ?_ (by intro i hi hm;first|exact hm|exact l_l _ hm|exact absurd hm l_d|(simp only[l_e,l_y,l_d,or_false]at hm⊢;omega)))|refine Fr.push ?_ _|(refine Fr.setM ?_ ?_ _; · first|exact l_n|(simp only[l_e,true_or,or_true];done))|(refine Fr.setN ?_ ?_ _; · first|omega|(simp only[l_c,l_b];omega))));done)|(simp only[l_c,l_b,l_f,l_g,l_e,l_d,or_false,false_or,U9,not_or];done)|(simp only[l_c,l_b,l_f,l_g,l_e,l_d,or_false,false_or,not_or];omega)) only[go_sem,↓wBk,↓eA,↓eB,↓eS,sT,simprocAttr,e0,e1,e8]))
  ·have hi':i=xs.length:=by omega
   subst hi'
   refine hK _ _ ⟨?_,hf⟩
   rw[←hx,List.drop_length]
   rfl
  ·have hlt:i<xs.length:=by omega
   obtain⟨b,off,rfl,hr⟩:=(ha.fr hf (fun _ _ _=>by simp)).at hlt
   refine Xe e0 e1 e8 hr ?_
   refine hp.call (hf.mono fun _ _ hm=>absurd hm l_d) fun h'' hf2=> ?_
   rw[b3w p xs i hlt]at hx
   cases hpx:p xs[i]
   ·refine Xe e8 e0 e1 e7 ?_
    rw[hpx]at hx
    refine hJ _ _ ?_ ?_
    ·refine Xd e0 e1 e7 ?_
     exact⟨hf.trans hf2,i+1,rfl,by omega,hx⟩
    ·refine Xb e8 ?_
     omega
   ·refine Xa ?_
    rw[hpx]at hx
    exact hK _ _ ⟨by rw[←hx];rfl,hf.trans hf2⟩
def X7(T sz bytes:Nat)(z:List Value):MFn:=MFn.mk (j6.seq (j6.ops [j1.mk (some 6) (MOp.p (j7.mov (Opd.c (Value.slice none 0 0)))) none]) (j6.seq (j6.ops [j1.mk (some 8) (MOp.p (j7.mov (Opd.t 0))) none,j1.mk (some 9) (MOp.p (j7.mov (Opd.t 1))) none,j1.mk (some 10) (MOp.p (j7.mov (Opd.t 2))) none,j1.mk (some 11) (MOp.p (j7.mov (Opd.t 0))) none,j1.mk (some 12) (MOp.p (j7.len false (Opd.t 11))) none,j1.mk (some 13) (MOp.p (j7.cutS sz (Opd.t 8) (some (Opd.t 9)) (some (Opd.t 10)) (some (Opd.t 12)))) none]) (j6.seq (j6.seq (j6.ops [j1.mk (some 14) (MOp.p (j7.mov (Opd.t 1))) none,j1.mk (some 15) (MOp.p (j7.mov (Opd.t 2))) none,j1.mk (some 16) (MOp.p (j7.bin BinOp.eql (Opd.t 14) (Opd.t 15))) none]) (j6.cond (Opd.t 16) (j6.seq (j6.ops [j1.mk (some 17) (MOp.p (j7.mov (Opd.t 0))) none,j1.mk (some 6) (MOp.p (j7.mov (Opd.t 17))) none]) j6.ret) j6.skip)) (j6.seq (j6.ops [j1.mk (some 18) (MOp.p (j7.mov (Opd.t 0))) none,j1.mk (some 19) (MOp.p (j7.len false (Opd.t 18))) none,j1.mk (some 7) (MOp.p (j7.mov (Opd.t 19))) none]) (j6.seq (j6.draw [j1.mk (some 20) (MOp.p (j7.mov (Opd.t 0))) none,j1.mk (some 21) (MOp.p (j7.mov (Opd.t 1))) none,j1.mk (some 22) (MOp.p (j7.cutS sz (Opd.t 20) none (some (Opd.t 21)) none)) none,j1.mk (some 23) (MOp.p (j7.mov (Opd.t 0))) none,j1.mk (some 24) (MOp.p (j7.mov (Opd.t 2))) none,j1.mk (some 25) (MOp.p (j7.cutS sz (Opd.t 23) (some (Opd.t 24)) none none)) none,j1.mk (some 26) (MOp.e (Eff.append T sz bytes z (Opd.t 22) (Opd.t 25))) none,j1.mk (some 0) (MOp.p (j7.mov (Opd.t 26))) none] (Sch.take 0 (Sch.take 1 (Sch.take 2 (Sch.take 3 (Sch.take 4 (Sch.take 5 (Sch.alt 6 false (Sch.take 7 Sch.done) Sch.no)))))))) (j6.seq (j6.ops [j1.mk (some 27) (MOp.p (j7.mov (Opd.t 0))) none,j1.mk (some 28) (MOp.p (j7.mov (Opd.t 0))) none,j1.mk (some 29) (MOp.p (j7.len false (Opd.t 28))) none,j1.mk (some 30) (MOp.p (j7.mov (Opd.t 7))) none,j1.mk (some 31) (MOp.p (j7.cutS sz (Opd.t 27) (some (Opd.t 29)) (some (Opd.t 30)) none)) none,j1.mk none (MOp.e (Eff.clear sz z (Opd.t 31))) none]) (j6.seq (j6.ops [j1.mk (some 32) (MOp.p (j7.mov (Opd.t 0))) none,j1.mk (some 6) (MOp.p (j7.mov (Opd.t 32))) none]) j6.ret))))))) [a3E.tmp 6] 33
theorem b6A{base:Nat}{f:FuncId}(hc:a1j P f=some (X7 T sz bytes z))(hsz:∀x,(enc x).length=sz)(h0:0<sz)(hpl:∀x,pC (enc x)=true)(hz:z.length=sz)(hzp:∀n,pC (n8 z n)=true)
  {v:Value} (ho:Own enc sz T base h v xs) {i j:Nat} (hij:i≤j) (hj:j≤xs.length) (hroom:xs.length<1000000000):
  d8 P f [v,.int .i64 i,.int .i64 j] h fun v' h'=>Own enc sz T base h' v' (xs.take i++xs.drop j)∧Fr h h' (i9 v)∧∀b∈i9 v',b∈i9 v:=by
 rcases ho with⟨rfl,rfl⟩|⟨b,cap,cs,rfl,hb,hle,h63',hblk,hl⟩
 ·simp only[l_g,Nat.le_zero]at hj
  subst hj
  obtain rfl:i=0:=by omega
  refine eK hc (l_a rfl) fun K hK=> ?_
  refine Xb @X7.eq_1 ?_
  exact hK _ _ ⟨.inl ⟨rfl,rfl⟩,Fr.refl _ _,fun b hb=>hb⟩
 ·refine eK hc (l_a rfl) fun K hK=> ?_
  by_cases hi0:(i:Int)<xs.length
  case neg=>
   obtain rfl:i=xs.length:=by omega
   obtain rfl:j=xs.length:=by omega
   refine Xb @X7.eq_1 ?_
   exact hK _ _ ⟨by rw[G0];exact .inr ⟨b,cap,cs,rfl,hb,hle,h63',hblk,hl⟩,Fr.refl _ _,fun b hb=>hb⟩
  refine Xb @X7.eq_1 ?_
  (generalize hg:dcd _=bb;cases bb<;>(first|replace hg:=y7 hg|replace hg:=s7 hg)<;>(try simp(disch:=first|omega|assumption|((repeat' (first|exact Fr.refl _ _|assumption|(refine Fr.via (by assumption) ?_ (by intro i hi hm;first|exact hm|exact l_l _ hm|exact absurd hm l_d|(simp only[l_e,l_y,l_d,or_false]at hm⊢;omega)))|refine Fr.push ?_ _|(refine Fr.setM ?_ ?_ _; · first|exact l_n|(simp only[l_e,true_or,or_true];done))|(refine Fr.setN ?_ ?_ _; · first|omega|(simp only[l_c,l_b];omega))));done)|(simp only[l_c,l_b,l_f,l_g,l_e,l_d,or_false,false_or,U9,not_or];done)|(simp only[l_c,l_b,l_f,l_g,l_e,l_d,or_false,false_or,not_or];omega)) only[go_sem,↓wBk,↓eA,↓eB,↓eS,sT,simprocAttr]))
  ·have hlt:i<j:=by omega
   have hlen:∀k,k≤xs.length→((xs.take k).flatMap enc).length=k*sz:=fun k hk=>by rw[fL hsz,x4,Nat.min_eq_left hk]
   have hdl:∀k,((xs.drop k).flatMap enc).length=(xs.length-k)*sz:=fun k=>by rw[fL hsz,M2]
   have hxl:(xs.flatMap enc).length=xs.length*sz:=fL hsz xs
   have hmj:j*sz+(xs.length-j)*sz=xs.length*sz:=by rw[←R8];congr 1;omega
   have hmi:i*sz+(xs.length-j)*sz=(i+(xs.length-j))*sz:=(R8 _ _ _).symm
   have hcap:xs.length*sz≤cap*sz:=a1n _ hle
   have hnew:(i+(xs.length-j))*sz+(j-i)*sz=xs.length*sz:=by rw[←R8];congr 1;omega
   have hsrc:∀a c',(a=some ⟨b,j*sz,none⟩∨xs.length-j=0)→x7 h sz (xs.length-j) (.slice a (xs.length-j) c')=some ((xs.drop j).flatMap enc):=by
    intro a c' ha
    rcases ha with rfl|ha
    ·refine T0 rfl ?_
     rw[v8 hblk (by rw[hl];omega)]
     congr 1
     rw[R5 enc xs j,l_q,show j*sz=((xs.take j).flatMap enc).length from(hlen j hj).symm,List.drop_left,←hdl j,List.take_left]
    ·have:xs.drop j=[]:=List.drop_eq_nil_of_le (by omega)
     rw[ha,this]
     cases a<;>simp[x7]
   have hcells:v5 (xs.flatMap enc++cs) (0+i*sz) ((xs.drop j).flatMap enc)=((xs.take i++xs.drop j).flatMap enc)++(((xs.drop i).flatMap enc++cs).drop ((xs.length-j)*sz)):=by
    rw[R5 enc xs i,l_q,v6 _ _ [] _ (by rw[hlen i (by omega)];omega) _ (by rw[hdl j,l_m,hdl i];have:(xs.length-j)*sz≤(xs.length-i)*sz:=a1n _ (by omega);omega),a1p,hdl j]
   have hres:∀h2,blk h2 b=some (v5 (v5 (xs.flatMap enc++cs) (0+i*sz) ((xs.drop j).flatMap enc)) (0+(i+(xs.length-j))*sz) (n8 z (j-i)),T,(0,0))→Own enc sz T base h2 (.slice (some ⟨b,0,none⟩) (i+(xs.length-j)) cap) (xs.take i++xs.drop j):=by
    intro h2 hb2
    have hl2:(xs.take i++xs.drop j).length=i+(xs.length-j):=by simp;omega
    have hf2:((xs.take i++xs.drop j).flatMap enc).length=(i+(xs.length-j))*sz:=by rw[fL hsz,hl2]
    have hzl:(n8 z (j-i)).length=(j-i)*sz:=by rw[B9,hz]
    have hrest:(((xs.drop i).flatMap enc++cs).drop ((xs.length-j)*sz)).length+(i+(xs.length-j))*sz=cap*sz:=by
     have h1:=congrArg List.length hcells
     rw[J5,hl,l_m,hf2]at h1
     omega
    rw[hcells,Nat.zero_add,←hf2,v6 _ _ [] _ rfl _ (by rw[hzl];omega),l_q]at hb2
    refine .inr ⟨b,cap,_,by rw[hl2],hb,by rw[hl2];omega,h63',hb2,?_⟩
    rw[l_m,hf2,l_m,hzl,M2]
    omega
   refine a1G [b] ?_
   by_cases hjc:j<cap
   ·refine Xa ?_
    refine a4j (n:=i) (m:=xs.length-j) (c:=cap) (off:=0) (new:=(xs.drop j).flatMap enc) rfl (hsrc _ _ (.inl rfl)) (by omega) hblk (by rw[hl,hdl j];omega) (x9 _) (R4 hpl _) ?_
    intro h1 hb1 hf1 hs1
    have e:xs.length-(i+(xs.length-j))=j-i:=by omega
    have e':(i+(xs.length-j))*sz=0+(i+(xs.length-j))*sz:=by omega
    refine Xc hf1 e ?_
    rw[e']
    refine a1h hb1 (by rw[J5,hl,B9,hz];omega) (x9 _) (hzp _) ?_
    intro h2 hb2 hf2 hs2
    refine Xa ?_
    exact hK _ _ ⟨hres _ hb2,hf1.trans hf2,fun b hb=>hb⟩
   ·obtain rfl:j=cap:=by omega
    obtain rfl:xs.length=j:=by omega
    refine Xa ?_
    have hm0:xs.length-xs.length=0:=by omega
    rw[hm0]at hsrc hres hcells hnew hmi
    refine a4j (n:=i) (m:=0) (c:=xs.length) (off:=0) (new:=(xs.drop xs.length).flatMap enc) rfl (hsrc _ _ (.inr rfl)) (by omega) hblk (by rw[hl,hdl];omega) (x9 _) (R4 hpl _) ?_
    intro h1 hb1 hf1 hs1
    have e':i*sz=0+(i+0)*sz:=by omega
    refine Xb hf1 ?_
    rw[e']
    refine a1h hb1 (by rw[J5,hl,B9,hz];omega) (x9 _) (hzp _) ?_
    intro h2 hb2 hf2 hs2
    refine Xa ?_
    exact hK _ _ ⟨hres _ hb2,hf1.trans hf2,fun b hb=>hb⟩
  ·have:i=j:=by omega
   subst this
   exact hK _ _ ⟨by rw[G0];exact .inr ⟨b,cap,cs,rfl,hb,hle,h63',hblk,hl⟩,Fr.refl _ _,fun b hb=>hb⟩
theorem b8S(hsz:∀x,(enc x).length=sz):∀(ys:List α) (i:Nat) (y:α) (cs:List Value),i<ys.length→v5 (ys.flatMap enc++cs) (i*sz) (enc y)=(ys.set i y).flatMap enc++cs:=by
 intro ys i y cs hi
 have hlt:((ys.take i).flatMap enc).length=i*sz:=by rw[fL hsz,x4,Nat.min_eq_left (by omega)]
 have h1:ys.flatMap enc=(ys.take i).flatMap enc++(enc ys[i]++(ys.drop (i+1)).flatMap enc):=by
  rw[R5 enc ys i,X8 hi,X9]
 rw[h1,l_q,l_q,←hlt,a3p _ _ _ _ (by rw[hsz,hsz]),List.set_eq_take_append_cons_drop,if_pos hi]
 simp
theorem R6(p:α→Bool):∀(xs:List α) (k:Nat),(K5 p xs k= -1∧∀x∈xs,p x=false)∨∃i:Nat,K5 p xs k=((k+i:Nat):Int)∧i<xs.length∧(∀x∈xs.take i,p x=false)∧∀x,xs[i]? =some x→p x=true
 | [],k=> .inl ⟨rfl,fun x hx=>by cases hx⟩
 |x::xs,k=>by
  simp only[K5]
  cases hp:p x
  ·simp only[Bool.false_eq_true,if_false]
   rw[show(k:Int)+1=((k+1:Nat):Int) by omega]
   rcases R6 p xs (k+1)with⟨h1,h2⟩|⟨i,h1,h2,h3,h4⟩
   ·exact .inl ⟨h1,fun y hy=>by rcases List.mem_cons.1 hy with rfl|hy;exact hp;exact h2 y hy⟩
   ·refine .inr ⟨i+1,by rw[h1];congr 1;omega,by simpa using h2,fun y hy=> ?_,by simpa using h4⟩
    rw[a7v]at hy
    rcases List.mem_cons.1 hy with rfl|hy
    ·exact hp
    ·exact h3 y hy
  ·exact .inr ⟨0,by simp,by simp,by simp,by simp[hp]⟩
def a4C(fi T sz:Nat)(z:List Value):MFn:=MFn.mk (j6.seq (j6.ops [j1.mk (some 4) (MOp.p (j7.mov (Opd.c (Value.slice none 0 0)))) none]) (j6.seq (j6.ops [j1.mk (some 8) (MOp.p (j7.mov (Opd.t 0))) none,j1.mk (some 9) (MOp.p (j7.mov (Opd.t 1))) none,j1.mk (some 10) (MOp.e (Eff.call fi [Opd.t 8,Opd.t 9])) none,j1.mk (some 5) (MOp.p (j7.mov (Opd.t 10))) none]) (j6.seq (j6.seq (j6.ops [j1.mk (some 11) (MOp.p (j7.mov (Opd.t 5))) none,j1.mk (some 12) (MOp.p (j7.bin BinOp.eql (Opd.t 11) (Opd.c (Value.int IntKind.i64 (-1))))) none]) (j6.cond (Opd.t 12) (j6.seq (j6.ops [j1.mk (some 13) (MOp.p (j7.mov (Opd.t 0))) none,j1.mk (some 4) (MOp.p (j7.mov (Opd.t 13))) none]) j6.ret) j6.skip)) (j6.seq (j6.seq (j6.ops [j1.mk (some 14) (MOp.p (j7.mov (Opd.t 5))) none,j1.mk (some 15) (MOp.p (j7.bin BinOp.add (Opd.t 14) (Opd.c (Value.int IntKind.i64 1)))) none,j1.mk (some 6) (MOp.p (j7.mov (Opd.t 15))) none]) (j6.block 0 (j6.loop (j6.seq (j6.seq (j6.ops [j1.mk (some 16) (MOp.p (j7.mov (Opd.t 6))) none,j1.mk (some 17) (MOp.p (j7.mov (Opd.t 0))) none,j1.mk (some 18) (MOp.p (j7.len false (Opd.t 17))) none,j1.mk (some 19) (MOp.p (j7.bin BinOp.lss (Opd.t 16) (Opd.t 18))) none]) (j6.cond (Opd.t 19) j6.skip (j6.exit 0))) (j6.seq (j6.block 1 (j6.seq (j6.ops [j1.mk (some 22) (MOp.p (j7.mov (Opd.t 0))) none,j1.mk (some 23) (MOp.p (j7.mov (Opd.t 6))) none,j1.mk (some 24) (MOp.p (j7.idxS sz (Opd.t 22) (Opd.t 23))) none,j1.mk (some 25) (MOp.r (a2o.loadN sz (Opd.t 24))) none,j1.mk (some 7) (MOp.e (Eff.alloc T z)) none,j1.mk none (MOp.e (Eff.store sz (Opd.t 7) (Opd.t 25))) none]) (j6.seq (j6.ops [j1.mk (some 26) (MOp.p (j7.mov (Opd.t 1))) none,j1.mk (some 27) (MOp.r (a2o.loadN sz (Opd.t 7))) none,j1.mk (some 28) (MOp.e (Eff.callv (Opd.t 26) [Opd.t 27])) none,j1.mk (some 29) (MOp.p (j7.un UnOp.not (Opd.t 28))) none]) (j6.cond (Opd.t 29) (j6.seq (j6.ops [j1.mk (some 30) (MOp.p (j7.mov (Opd.t 0))) none,j1.mk (some 31) (MOp.p (j7.mov (Opd.t 5))) none,j1.mk (some 32) (MOp.r (a2o.loadN sz (Opd.t 7))) none,j1.mk (some 33) (MOp.p (j7.idxS sz (Opd.t 30) (Opd.t 31))) none,j1.mk none (MOp.e (Eff.store sz (Opd.t 33) (Opd.t 32))) none]) (j6.ops [j1.mk (some 34) (MOp.p (j7.mov (Opd.t 5))) none,j1.mk (some 35) (MOp.p (j7.bin BinOp.add (Opd.t 34) (Opd.c (Value.int IntKind.i64 1)))) none,j1.mk (some 5) (MOp.p (j7.mov (Opd.t 35))) none])) j6.skip)))) (j6.ops [j1.mk (some 20) (MOp.p (j7.mov (Opd.t 6))) none,j1.mk (some 21) (MOp.p (j7.bin BinOp.add (Opd.t 20) (Opd.c (Value.int IntKind.i64 1)))) none,j1.mk (some 6) (MOp.p (j7.mov (Opd.t 21))) none])))))) (j6.seq (j6.ops [j1.mk (some 36) (MOp.p (j7.mov (Opd.t 0))) none,j1.mk (some 37) (MOp.p (j7.mov (Opd.t 5))) none,j1.mk (some 38) (MOp.p (j7.cutS sz (Opd.t 36) (some (Opd.t 37)) none none)) none,j1.mk none (MOp.e (Eff.clear sz z (Opd.t 38))) none]) (j6.seq (j6.ops [j1.mk (some 39) (MOp.p (j7.mov (Opd.t 0))) none,j1.mk (some 40) (MOp.p (j7.mov (Opd.t 5))) none,j1.mk (some 41) (MOp.p (j7.cutS sz (Opd.t 39) none (some (Opd.t 40)) none)) none,j1.mk (some 4) (MOp.p (j7.mov (Opd.t 41))) none]) j6.ret)))))) [a3E.tmp 4] 42
theorem a8r{base:Nat}{f fi:FuncId}(hc:a1j P f=some (a4C fi T sz z))(hci:a1j P fi=some (a2C sz))(hsz:∀x,(enc x).length=sz)(h0:0<sz)(hpl:∀x,pC (enc x)=true)(hz:z.length=sz)(hzp:∀n,pC (n8 z n)=true)
  {v:Value} (ho:Own enc sz T base h v xs) (hroom:xs.length<1000000000) {fv:Value}{p:α→Bool} (hp:a6k P enc h (i9 v) fv p):
  d8 P f [v,fv] h fun v' h'=>Own enc sz T base h' v' (xs.filter fun x=> !p x)∧Fr h h' (i9 v)∧∀b∈i9 v',b∈i9 v:=by
 obtain⟨A,c,rfl⟩:=ho.slice
 refine eK hc (l_a rfl) fun K hK=> ?_
 refine Xb @a4C.eq_1 ?_
 refine cI (U0 hci (ho.arr hsz).1 rfl (by omega) hp) ?_
 rintro _ h1 ⟨rfl,hf1⟩
 have ho1:=ho.fr hf1 (fun _ _=>by simp)
 rcases R6 p xs 0 with⟨hx,hall⟩|⟨i,hx,hi,hbef,hat⟩
 ·rw[show K5 p xs 0= -1 from hx]
  refine Xa ?_
  refine hK _ _ ⟨?_,hf1.mono fun _ _ hm=>absurd hm l_d,fun b hb=>hb⟩
  rw[List.filter_eq_self.2 fun x hx=>by rw[hall x hx];rfl]
  exact ho1
 ·rw[show K5 p xs 0=(i:Int) by simpa using hx]
  rcases ho1 with⟨hv,rfl⟩|⟨b,cap,cs,hv,hb,hle,h63',hblk,hl⟩
  ·simp at hi
  injection hv with e1 _ e3
  subst e1 e3
  have hrow:∀(h':c9) (ys:List α),blk h' b=some (ys.flatMap enc++cs,T,(0,0))→ys.length=xs.length→∀k (hk:k<ys.length),rdN h' b (k*sz) sz=some (enc ys[k]):=by
   intro h' ys hb' hly k hk
   have h1:(k+1)*sz≤c*sz:=a1n _ (by omega)
   rw[Nat.succ_mul]at h1
   have h2:(ys.flatMap enc++cs).length=c*sz:=by rw[←hl,l_m,l_m,fL hsz,fL hsz,hly]
   rw[v8 hb' (by rw[h2];exact h1),a4x hsz ys cs k hk]
  have hbl:i9 (.slice (some ⟨b,0,none⟩) xs.length c)=[b]:=rfl
  rw[hbl]at hp hK
  have hf1':Fr h h1 [b]:=hf1.mono fun _ _ hm=>absurd hm l_d
  refine Xa ?_
  refine lI (fun ρ h'=>Fr h h' [b]∧ρ 0= .slice (some ⟨b,0,none⟩) xs.length c∧ρ 1=fv∧∃(ys:List α) (i j:Nat),ρ 5= .int .i64 i∧ρ 6= .int .i64 j∧blk h' b=some (ys.flatMap enc++cs,T,(0,0))∧ys.length=xs.length∧i<j∧j≤xs.length∧
    ys.take i=(xs.take j).filter (fun x=> !p x)∧ys.drop j=xs.drop j) (fun ρ _=>xs.length-(iv (ρ 6)).toNat) ?_ ?_
  ·refine Xa ?_
   refine⟨hf1',xs,i,i+1,rfl,rfl,hblk,rfl,by omega,by omega,?_,rfl⟩
   rw[l_t hi,List.filter_append,List.filter_eq_self.2 fun x hx=>by rw[hbef x hx];rfl]
   have:=hat xs[i] (l_r hi)
   simp[this]
  ·rintro ρ h' J hJ ⟨hf,e0,e1,ys,i,j,e5,e6,hb',hly,hij,hj,hta,hdr⟩
   have hltb:=F5 hb'
   have hszh:=hf.size
   refine Xc e0 e6 ?_
   (generalize hg:dcd _=bb;cases bb<;>(first|replace hg:=y7 hg|replace hg:=s7 hg)<;>(try simp(disch:=first|omega|assumption|((repeat' (first|exact Fr.refl _ _|assumption|(refine Fr.via (by assumption) ?_ (by intro i hi hm;first|exact hm|exact l_l _ hm|exact absurd hm l_d|(simp only[l_e,l_y,l_d,or_false]at hm⊢;omega)))|refine Fr.push ?_ _|(refine Fr.setM ?_ ?_ _; · first|exact l_n|(simp only[l_e,true_or,or_true];done))|(refine Fr.setN ?_ ?_ _; · first|omega|(simp only[l_c,l_b];omega))));done)|(simp only[l_c,l_b,l_f,l_g,l_e,l_d,or_false,false_or,U9,not_or];done)|(simp only[l_c,l_b,l_f,l_g,l_e,l_d,or_false,false_or,not_or];omega)) only[go_sem,↓wBk,↓eA,↓eB,↓eS,sT,simprocAttr,e0,e1,e5,e6]))
   ·have hjn:j=xs.length:=by omega
    subst hjn
    have hl2:(ys.flatMap enc++cs).length=c*sz:=by rw[←hl,l_m,l_m,fL hsz,fL hsz,hly]
    rw[C9]at hta
    have hzl:(n8 z (xs.length-i)).length=(xs.length-i)*sz:=by rw[B9,hz]
    have hmul:i*sz+(xs.length-i)*sz=xs.length*sz:=by rw[←R8];congr 1;omega
    have hcap:xs.length*sz≤c*sz:=a1n _ hle
    have hlt':((ys.take i).flatMap enc).length=i*sz:=by rw[fL hsz,x4,Nat.min_eq_left (by omega)]
    refine a1h hb' (by rw[hl2,hzl];omega) (x9 _) (hzp _) ?_
    intro h2 hb2 hf2 hs2
    refine Xc e0 e5 ?_
    refine hK _ _ ⟨?_,hf.trans hf2,fun b hb=>hb⟩
    rw[←hta]
    rw[R5 enc ys i,l_q,v6 _ _ [] _ hlt'.symm _ (by rw[hzl,l_m,fL hsz,M2,hly];omega),l_q]at hb2
    have hln:(ys.take i).length=i:=by rw[x4,Nat.min_eq_left (by omega)]
    refine .inr ⟨b,c,_,by rw[hln],hb,by rw[hln];omega,h63',hb2,?_⟩
    simp only[l_m,hlt',hzl,M2,fL hsz,hly]at hl⊢
    omega
   ·have hjlt:j<ys.length:=by omega
    have hr:=hrow h' ys hb' hly j hjlt
    have hlj:(enc ys[j]).length=sz:=hsz _
    have htk:∀y,List.take sz (enc y)=enc y:=fun y=>a2E (by rw[hsz];exact x9 _)
    have hsp:∀y,v5 z 0 (enc y)=enc y:=fun y=>by
     have:=v6 [] z [] 0 rfl (enc y) (by rw[hsz,hz];exact x9 _)
     rw[l_k,l_k]at this
     rw[this,List.drop_of_length_le (by rw[hsz,hz];exact x9 _),D9]
    have hxj:ys[j]=xs[j]:=by
     have h3:=congrArg (fun l=>l[0]?) hdr
     simp only[List.getElem?_drop,H8]at h3
     rw[l_r hjlt,l_r (by omega)]at h3
     exact Option.some.inj h3
    refine Xi e0 e1 e5 e6 hr hb' hsz (Pd hpl hsp htk) ?_
    refine hp.call (by(exact FRR)) fun h2 hf2=> ?_
    have hsz2:=hf2.size
    simp only[l_c,l_b]at hsz2
    have hri:i*sz+sz≤(ys.flatMap enc++cs).length:=by
     have h5:(i+1)*sz≤ys.length*sz:=a1n _ (by omega)
     rw[Nat.succ_mul]at h5
     rw[l_m,fL hsz]
     omega
    cases hpj:p ys[j]
    ·refine Xi e0 e1 e5 e6 hr hb' hsz (Pf hpl hsp htk @hf2.blk @hf2.rdN) ?_
     refine hJ _ _ ?_ ?_
     ·refine Xf e0 e1 e5 @hf2.blk hb' ?_
      rw[b8S hsz ys i ys[j] cs (by omega)]
      refine⟨by(exact FRR),ys.set i ys[j],i+1,j+1,rfl,rfl,rfl,by simpa using hly,by omega,by omega,?_,?_⟩
      ·rw[l_t (by simp;omega),List.take_set_of_le (x9 _),hta,List.getElem_set_self,l_t (i:=j) (by omega),List.filter_append]
       simp[←hxj,hpj]
      ·rw[List.drop_set_of_lt (by omega),←List.drop_drop,hdr,List.drop_drop]
     ·refine Xb e6 ?_
      omega
    ·refine Xe e0 e1 e5 e6 ?_
     refine hJ _ _ ?_ ?_
     ·refine Xf e0 e1 e5 @hf2.blk hb' ?_
      refine⟨by(exact FRR),ys,i,j+1,rfl,rfl,rfl,hly,by omega,by omega,?_,?_⟩
      ·rw[hta,l_t (by omega),List.filter_append]
       simp[←hxj,hpj]
      ·rw[←List.drop_drop,hdr,List.drop_drop]
     ·refine Xb e6 ?_
      omega
end
end
theorem b4r:∀n,pC (n8 [Value.int IntKind.i64 0,Value.int IntKind.i64 0,Value.int IntKind.i64 0,Value.int IntKind.i64 0,Value.int IntKind.i64 0,Value.int IntKind.i64 0] n)=true
 |0=>rfl
 |n+1=>by simp only[n8,l_j,l_k,a9x,b4r n]
theorem a5N{h:c9}{A:Option Addr}{n c:Nat}{xs:List Msg}(ha:Arr Msg.enc 6 h A xs)(hn:n=xs.length)(hA:A=none→xs=[])(hl:xs.length<1000000000):
  d8 Tryz.prog 110 [.slice A n c] h fun v h'=>Own Msg.enc 6 128 h.size h' v xs∧Fr h h' []∧(A=none→v= .slice none 0 0):=
 Q0 (T:=128) (sz:=6) (bytes:=48) i110.2 enc_len (by omega) enc_plain rfl ha hn hA (by omega) (by omega)
theorem Own.nilA{α:Type}{enc:α→List Value}{sz T base:Nat}{h:c9}{A:Option Addr}{n c:Nat}{xs:List α}(ho:Own enc sz T base h (.slice A n c) xs):A=none→xs=[]:=by
 rintro rfl
 rcases ho with⟨hv,rfl⟩|⟨b,cap,cs,hv,_⟩
 ·rfl
 ·cases hv
theorem c1s{base:Nat}{h:c9}{o:Nat}{s:Value}{next:Int}{l:List Msg}(hi:a0G base h o s next l)(hl:l.length<1000000):
  d8 Tryz.prog 60 [.pointer (some ⟨o,0,none⟩)] h fun v h'=>Own Msg.enc 6 128 h.size h' v l∧Fr h h' []:=by
 obtain⟨A,c,rfl⟩:=hi.own.slice
 refine EN i60.eq_1 fun K hK=> ?_
 refine Xa ?_
 simp(disch:=first|omega|assumption|((repeat' (first|exact Fr.refl _ _|assumption|(refine Fr.via (by assumption) ?_ (by intro i hi hm;first|exact hm|exact l_l _ hm|exact absurd hm l_d|(simp only[l_e,l_y,l_d,or_false]at hm⊢;omega)))|refine Fr.push ?_ _|(refine Fr.setM ?_ ?_ _; · first|exact l_n|(simp only[l_e,true_or,or_true];done))|(refine Fr.setN ?_ ?_ _; · first|omega|(simp only[l_c,l_b];omega))));done)|(simp only[l_c,l_b,l_f,l_g,l_e,l_d,or_false,false_or,U9,not_or];done)|(simp only[l_c,l_b,l_f,l_g,l_e,l_d,or_false,false_or,not_or];omega)) only[go_sem,↓wBk,↓eA,↓eB,↓eS,sT,simprocAttr,j3 hi.blk]
 refine cI (a5N (hi.own.arr enc_len).1 rfl hi.own.nilA (by omega)) ?_
 rintro v h' ⟨ho,hf,_⟩
 refine Xa ?_
 exact hK _ _ ⟨ho,hf⟩
theorem a0G.fr{base:Nat}{h h':c9}{o:Nat}{s:Value}{next:Int}{l:List Msg}{M:List Nat}(hi:a0G base h o s next l)(hf:Fr h h' M)(hm:∀b,b=o∨b∈i9 s→b∉M):a0G base h' o s next l:=
 ⟨by rw[hf.blk hi.lt (hm _ (.inl rfl))];exact hi.blk,hi.ge,hi.own.fr hf fun b hb=>hm b (.inr hb),hi.apart⟩
def l8(rma:Int)(l:List Msg):Nat:=(l.filter fun m=>decide (m.rma=rma∧m.kind≠1)).length
end Go.Proofs.YtjagmebglhbdkaaGreat.MX
