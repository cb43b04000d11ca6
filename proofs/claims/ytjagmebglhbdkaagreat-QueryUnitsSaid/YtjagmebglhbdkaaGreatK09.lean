import Derived.Test.YtjagmebglhbdkaaGreatK07
import Derived.Test.YtjagmebglhbdkaaGreatK08
namespace Go.Proofs.YtjagmebglhbdkaaGreat.MX
open Go Go.Proofs
set_option linter.unusedSimpArgs false
set_option linter.unusedVariables false
section
def b4j(T sz bytes:Nat)(z:List Value):MFn:=MFn.mk (j4.seq (j4.ops [i9.mk (some 2) (MOp.p (j5.mov (Opd.c (Value.slice none 0 0)))) none]) (j4.seq (j4.seq (j4.ops [i9.mk (some 3) (MOp.p (j5.mov (Opd.t 0))) none,i9.mk (some 4) (MOp.p (j5.eq EK.s false (Opd.t 3) (Opd.c (Value.slice none 0 0)))) none]) (j4.cond (Opd.t 4) (j4.seq (j4.ops [i9.mk (some 2) (MOp.p (j5.mov (Opd.c (Value.slice none 0 0)))) none]) j4.ret) j4.skip)) (j4.seq (j4.ops [i9.mk (some 5) (MOp.e (Eff.bslice T 0 z [])) none,i9.mk (some 6) (MOp.p (j5.mov (Opd.t 0))) none,i9.mk (some 7) (MOp.e (Eff.append T sz bytes z (Opd.t 5) (Opd.t 6))) none,i9.mk (some 2) (MOp.p (j5.mov (Opd.t 7))) none]) j4.ret))) [a3m.tmp 2] 8
section
variable{P:Program}{α:Type}{enc:α→List Value}{T sz bytes:Nat}{z:List Value}{h:c9}{A:Option Addr}{n c:Nat}{xs:List α}
theorem P7{f:FuncId}(hc:a0X P f=some (b4j T sz bytes z))(hsz:∀x,(enc x).length=sz)(h0:0<sz)(hpl:∀x,pC (enc x)=true)(hz:z.length=sz)
  (ha:Arr enc sz h A xs) (hn:n=xs.length) (hA:A=none→xs=[]) (hroom:xs.length*bytes≤140737488355328) (h63:xs.length≤9223372036854775807):
  d8 P f [.slice A n c] h fun v h'=>Own enc sz T h.size h' v xs∧Fr h h' []∧(A=none→v= .slice none 0 0):=by
 refine eK hc (l_a rfl) fun K hK=> ?_
 refine Xb @b4j.eq_1 ?_
 cases A with
 |none=>
  refine Xa ?_
  exact hK _ _ ⟨.inl ⟨rfl,hA rfl⟩,by(exact FRR),fun _=>rfl⟩
 |some a=>
  refine Xa ?_
  have ho:Own enc sz T h.size (h.push (.cells ([]:List Value).toArray T (0,0))) (.slice (some ⟨h.size,0,none⟩) 0 0) ([]:List α):=
   .inr ⟨h.size,0,[],rfl,v9 _,v9 _,by omega,by simpa using C4 (c:=[]) rfl,by simp⟩
  have ha':Arr enc sz (h.push (.cells ([]:List Value).toArray T (0,0))) (some a) xs:=ha.fr (M:=[]) (by(exact FRR)) (fun _ _ _=>by simp)
  refine a1p (ys:=xs) hsz h0 hpl hz ho (by simp) (by rw[hn];rfl) (E7 hsz ha' hn) (by simpa using hroom) (by simpa using h63) ?_
  intro v' h' ho' hf hb
  refine Xa ?_
  refine hK _ _ ⟨by simpa using ho',⟨?_,?_⟩,fun h1=>by cases h1⟩
  ·have:=hf.size;simp at this;omega
  ·intro b hb1 _
   rw[hf.same b (by simp;omega) (by simp[i6];omega),Array.getElem?_push,if_neg (by omega)]
def a5P(P:Program)(enc:α→List Value)(h:c9)(M:List Nat)(fv:Value)(p:α→Bool):Prop:=
 ∃F caps,fv= .func (.func F) #[] (List.toArray caps)∧a3D P F=true∧∀x h',Fr h h' M→d8 P F (.agg (enc x).toArray::caps) h' fun v h''=>v= .bool (p x)∧Fr h' h'' []
theorem a5P.call{fv:Value}{M:List Nat}{p:α→Bool}(ha:a5P P enc h M fv p){x:α}{h':c9}(hf:Fr h h' M){K:Value→c9→Prop}{s:Tag h'}{t:Tag K}(hk:∀h'',Fr h' h'' []→K (.bool (p x)) h''):a3r P fv [.agg (enc x).toArray] h' K s t:=by
 obtain⟨F,caps,rfl,hok,hc⟩:=ha
 simp only[a3r,a3s]
 refine⟨hok,?_⟩
 have:=hc x h' hf
 simpa using this.mono (fun v h'' ⟨e,f⟩=>e▸hk h'' f)
theorem a5P.fr{fv:Value}{M:List Nat}{p:α→Bool}(ha:a5P P enc h M fv p){h':c9}(hf:Fr h h' M):a5P P enc h' M fv p:=by
 obtain⟨F,caps,rfl,hok,hc⟩:=ha
 exact⟨F,caps,rfl,hok,fun x h'' hf'=>hc x h'' (hf.trans hf')⟩
def K2(p:α→Bool):List α→Int→Int
 | [],_=> -1
 |x::xs,i=>if p x then i else K2 p xs (i+1)
theorem b2M(p:α→Bool)(xs:List α)(i:Nat)(hi:i<xs.length):K2 p (xs.drop i) i=if p xs[i]then(i:Int)else K2 p (xs.drop (i+1)) ((i+1:Nat):Int):=by
 rw[X0 hi]
 rfl
def a2m(sz:Nat):MFn:=MFn.mk (j4.seq (j4.ops [i9.mk (some 4) (MOp.p (j5.mov (Opd.c (Value.int IntKind.i64 0)))) none]) (j4.seq (j4.seq (j4.ops [i9.mk (some 6) (MOp.p (j5.mov (Opd.t 0))) none,i9.mk (some 7) (MOp.p (j5.len false (Opd.t 6))) none,i9.mk (some 8) (MOp.p (j5.mov (Opd.c (Value.int IntKind.i64 0)))) none]) (j4.block 0 (j4.loop (j4.seq (j4.ops [i9.mk (some 9) (MOp.p (j5.bin BinOp.lss (Opd.t 8) (Opd.t 7))) none]) (j4.seq (j4.cond (Opd.t 9) j4.skip (j4.exit 0)) (j4.seq (j4.block 1 (j4.seq (j4.ops [i9.mk (some 10) (MOp.p (j5.mov (Opd.t 8))) none,i9.mk (some 5) (MOp.p (j5.mov (Opd.t 10))) none]) (j4.seq (j4.ops [i9.mk (some 11) (MOp.p (j5.mov (Opd.t 1))) none,i9.mk (some 12) (MOp.p (j5.mov (Opd.t 0))) none,i9.mk (some 13) (MOp.p (j5.mov (Opd.t 5))) none,i9.mk (some 14) (MOp.p (j5.idxS sz (Opd.t 12) (Opd.t 13))) none,i9.mk (some 15) (MOp.r (a1Z.loadN sz (Opd.t 14))) none,i9.mk (some 16) (MOp.e (Eff.callv (Opd.t 11) [Opd.t 15])) none]) (j4.cond (Opd.t 16) (j4.seq (j4.ops [i9.mk (some 17) (MOp.p (j5.mov (Opd.t 5))) none,i9.mk (some 4) (MOp.p (j5.mov (Opd.t 17))) none]) j4.ret) j4.skip)))) (j4.ops [i9.mk (some 18) (MOp.p (j5.bin BinOp.add (Opd.t 8) (Opd.c (Value.int IntKind.i64 1)))) none,i9.mk (some 8) (MOp.p (j5.mov (Opd.t 18))) none]))))))) (j4.seq (j4.ops [i9.mk (some 4) (MOp.p (j5.mov (Opd.c (Value.int IntKind.i64 (-1))))) none]) j4.ret))) [a3m.tmp 4] 19
theorem T3{f:FuncId}(hc:a0X P f=some (a2m sz))(ha:Arr enc sz h A xs)(hn:n=xs.length)(h63:xs.length<9223372036854775807){fv:Value}{p:α→Bool}{M:List Nat}(hp:a5P P enc h M fv p):
  d8 P f [.slice A n c,fv] h fun v h'=>v= .int .i64 (K2 p xs 0)∧Fr h h' []:=by
 subst hn
 refine eK hc (l_a rfl) fun K hK=> ?_
 refine Xb @a2m.eq_1 ?_
 refine lI (fun ρ h'=>Fr h h' []∧ρ 0= .slice A xs.length c∧ρ 1=fv∧ρ 7= .int .i64 xs.length∧∃i:Nat,ρ 8= .int .i64 i∧i≤xs.length∧K2 p (xs.drop i) i=K2 p xs 0) (fun ρ _=>xs.length-(iv (ρ 8)).toNat) ?_ ?_
 ·refine Xa ?_
  exact⟨Fr.refl _ _,0,rfl,Nat.zero_le _,rfl⟩
 ·rintro ρ h' J hJ ⟨hf,e0,e1,e7,i,e8,hi,hx⟩
  refine Xc e8 e7 ?_
  (generalize hg:dcd _=bb;cases bb<;>(first|replace hg:=x9 hg|replace hg:=n9 hg)<;>(try simp(disch:=first|omega|assumption|((repeat' (first|exact Fr.refl _ _|assumption|(refine Fr.via (by assumption) ?_ (by intro i hi hm;first|exact hm|exact l_l _ hm|exact absurd hm l_d|(simp only[l_e,l_y,l_d,or_false]at hm⊢;omega)))|refine Fr.push ?_ _|(refine Fr.setM ?_ ?_ _; · first|exact l_n|(simp only[l_e,true_or,or_true];done))|(refine Fr.setN ?_ ?_ _; · first|omega|(simp only[l_c,l_b];omega))));done)|(simp only[l_c,l_b,l_f,l_g,l_e,l_d,or_false,false_or,U8,not_or];done)|(simp only[l_c,l_b,l_f,l_g,l_e,l_d,or_false,false_or,not_or];omega)) only[go_sem,↓wBk,↓eA,↓eB,↓eS,sT,simprocAttr,e0,e1,e8]))
  ·have hi':i=xs.length:=by omega
   subst hi'
   refine hK _ _ ⟨?_,hf⟩
   rw[←hx,List.drop_length]
   rfl
  ·have hlt:i<xs.length:=by omega
   obtain⟨b,off,rfl,hr⟩:=(ha.fr hf (fun _ _ _=>by simp)).at hlt
   refine Xe e0 e1 e8 hr ?_
   refine hp.call (hf.mono fun _ _ hm=>absurd hm l_d) fun h'' hf2=> ?_
   rw[b2M p xs i hlt]at hx
   cases hpx:p xs[i]
   ·refine Xe e8 e0 e1 e7 ?_
    rw[hpx]at hx
    refine hJ _ _ ?_ ?_
    ·refine Xd e0 e1 e7 ?_
     exact⟨hf.trans hf2,i+1,rfl,by omega,hx⟩
    ·refine Xb e8 ?_
     omega
   ·refine Xa ?_
    rw[hpx]at hx
    exact hK _ _ ⟨by rw[←hx];rfl,hf.trans hf2⟩
def W8(T sz bytes:Nat)(z:List Value):MFn:=MFn.mk (j4.seq (j4.ops [i9.mk (some 6) (MOp.p (j5.mov (Opd.c (Value.slice none 0 0)))) none]) (j4.seq (j4.ops [i9.mk (some 8) (MOp.p (j5.mov (Opd.t 0))) none,i9.mk (some 9) (MOp.p (j5.mov (Opd.t 1))) none,i9.mk (some 10) (MOp.p (j5.mov (Opd.t 2))) none,i9.mk (some 11) (MOp.p (j5.mov (Opd.t 0))) none,i9.mk (some 12) (MOp.p (j5.len false (Opd.t 11))) none,i9.mk (some 13) (MOp.p (j5.cutS sz (Opd.t 8) (some (Opd.t 9)) (some (Opd.t 10)) (some (Opd.t 12)))) none]) (j4.seq (j4.seq (j4.ops [i9.mk (some 14) (MOp.p (j5.mov (Opd.t 1))) none,i9.mk (some 15) (MOp.p (j5.mov (Opd.t 2))) none,i9.mk (some 16) (MOp.p (j5.bin BinOp.eql (Opd.t 14) (Opd.t 15))) none]) (j4.cond (Opd.t 16) (j4.seq (j4.ops [i9.mk (some 17) (MOp.p (j5.mov (Opd.t 0))) none,i9.mk (some 6) (MOp.p (j5.mov (Opd.t 17))) none]) j4.ret) j4.skip)) (j4.seq (j4.ops [i9.mk (some 18) (MOp.p (j5.mov (Opd.t 0))) none,i9.mk (some 19) (MOp.p (j5.len false (Opd.t 18))) none,i9.mk (some 7) (MOp.p (j5.mov (Opd.t 19))) none]) (j4.seq (j4.draw [i9.mk (some 20) (MOp.p (j5.mov (Opd.t 0))) none,i9.mk (some 21) (MOp.p (j5.mov (Opd.t 1))) none,i9.mk (some 22) (MOp.p (j5.cutS sz (Opd.t 20) none (some (Opd.t 21)) none)) none,i9.mk (some 23) (MOp.p (j5.mov (Opd.t 0))) none,i9.mk (some 24) (MOp.p (j5.mov (Opd.t 2))) none,i9.mk (some 25) (MOp.p (j5.cutS sz (Opd.t 23) (some (Opd.t 24)) none none)) none,i9.mk (some 26) (MOp.e (Eff.append T sz bytes z (Opd.t 22) (Opd.t 25))) none,i9.mk (some 0) (MOp.p (j5.mov (Opd.t 26))) none] (Sch.take 0 (Sch.take 1 (Sch.take 2 (Sch.take 3 (Sch.take 4 (Sch.take 5 (Sch.alt 6 false (Sch.take 7 Sch.done) Sch.no)))))))) (j4.seq (j4.ops [i9.mk (some 27) (MOp.p (j5.mov (Opd.t 0))) none,i9.mk (some 28) (MOp.p (j5.mov (Opd.t 0))) none,i9.mk (some 29) (MOp.p (j5.len false (Opd.t 28))) none,i9.mk (some 30) (MOp.p (j5.mov (Opd.t 7))) none,i9.mk (some 31) (MOp.p (j5.cutS sz (Opd.t 27) (some (Opd.t 29)) (some (Opd.t 30)) none)) none,i9.mk none (MOp.e (Eff.clear sz z (Opd.t 31))) none]) (j4.seq (j4.ops [i9.mk (some 32) (MOp.p (j5.mov (Opd.t 0))) none,i9.mk (some 6) (MOp.p (j5.mov (Opd.t 32))) none]) j4.ret))))))) [a3m.tmp 6] 33
theorem b5L{base:Nat}{f:FuncId}(hc:a0X P f=some (W8 T sz bytes z))(hsz:∀x,(enc x).length=sz)(h0:0<sz)(hpl:∀x,pC (enc x)=true)(hz:z.length=sz)(hzp:∀n,pC (m8 z n)=true)
  {v:Value} (ho:Own enc sz T base h v xs) {i j:Nat} (hij:i≤j) (hj:j≤xs.length) (hroom:xs.length<1000000000):
  d8 P f [v,.int .i64 i,.int .i64 j] h fun v' h'=>Own enc sz T base h' v' (xs.take i++xs.drop j)∧Fr h h' (i6 v)∧∀b∈i6 v',b∈i6 v:=by
 rcases ho with⟨rfl,rfl⟩|⟨b,cap,cs,rfl,hb,hle,h63',hblk,hl⟩
 ·simp only[l_g,Nat.le_zero]at hj
  subst hj
  obtain rfl:i=0:=by omega
  refine eK hc (l_a rfl) fun K hK=> ?_
  refine Xb @W8.eq_1 ?_
  exact hK _ _ ⟨.inl ⟨rfl,rfl⟩,Fr.refl _ _,fun b hb=>hb⟩
 ·refine eK hc (l_a rfl) fun K hK=> ?_
  by_cases hi0:(i:Int)<xs.length
  case neg=>
   obtain rfl:i=xs.length:=by omega
   obtain rfl:j=xs.length:=by omega
   refine Xb @W8.eq_1 ?_
   exact hK _ _ ⟨by rw[G3];exact .inr ⟨b,cap,cs,rfl,hb,hle,h63',hblk,hl⟩,Fr.refl _ _,fun b hb=>hb⟩
  refine Xb @W8.eq_1 ?_
  (generalize hg:dcd _=bb;cases bb<;>(first|replace hg:=x9 hg|replace hg:=n9 hg)<;>(try simp(disch:=first|omega|assumption|((repeat' (first|exact Fr.refl _ _|assumption|(refine Fr.via (by assumption) ?_ (by intro i hi hm;first|exact hm|exact l_l _ hm|exact absurd hm l_d|(simp only[l_e,l_y,l_d,or_false]at hm⊢;omega)))|refine Fr.push ?_ _|(refine Fr.setM ?_ ?_ _; · first|exact l_n|(simp only[l_e,true_or,or_true];done))|(refine Fr.setN ?_ ?_ _; · first|omega|(simp only[l_c,l_b];omega))));done)|(simp only[l_c,l_b,l_f,l_g,l_e,l_d,or_false,false_or,U8,not_or];done)|(simp only[l_c,l_b,l_f,l_g,l_e,l_d,or_false,false_or,not_or];omega)) only[go_sem,↓wBk,↓eA,↓eB,↓eS,sT,simprocAttr]))
  ·have hlt:i<j:=by omega
   have hlen:∀k,k≤xs.length→((xs.take k).flatMap enc).length=k*sz:=fun k hk=>by rw[fL hsz,v8,Nat.min_eq_left hk]
   have hdl:∀k,((xs.drop k).flatMap enc).length=(xs.length-k)*sz:=fun k=>by rw[fL hsz,L8]
   have hxl:(xs.flatMap enc).length=xs.length*sz:=fL hsz xs
   have hmj:j*sz+(xs.length-j)*sz=xs.length*sz:=by rw[←Q9];congr 1;omega
   have hmi:i*sz+(xs.length-j)*sz=(i+(xs.length-j))*sz:=(Q9 _ _ _).symm
   have hcap:xs.length*sz≤cap*sz:=a1b _ hle
   have hnew:(i+(xs.length-j))*sz+(j-i)*sz=xs.length*sz:=by rw[←Q9];congr 1;omega
   have hsrc:∀a c',(a=some ⟨b,j*sz,none⟩∨xs.length-j=0)→x7 h sz (xs.length-j) (.slice a (xs.length-j) c')=some ((xs.drop j).flatMap enc):=by
    intro a c' ha
    rcases ha with rfl|ha
    ·refine R8 rfl ?_
     rw[n7 hblk (by rw[hl];omega)]
     congr 1
     rw[Q7 enc xs j,l_q,show j*sz=((xs.take j).flatMap enc).length from(hlen j hj).symm,List.drop_left,←hdl j,List.take_left]
    ·have:xs.drop j=[]:=List.drop_eq_nil_of_le (by omega)
     rw[ha,this]
     cases a<;>simp[x7]
   have hcells:u6 (xs.flatMap enc++cs) (0+i*sz) ((xs.drop j).flatMap enc)=((xs.take i++xs.drop j).flatMap enc)++(((xs.drop i).flatMap enc++cs).drop ((xs.length-j)*sz)):=by
    rw[Q7 enc xs i,l_q,v6 _ _ [] _ (by rw[hlen i (by omega)];omega) _ (by rw[hdl j,l_m,hdl i];have:(xs.length-j)*sz≤(xs.length-i)*sz:=a1b _ (by omega);omega),a1X,hdl j]
   have hres:∀h2,blk h2 b=some (u6 (u6 (xs.flatMap enc++cs) (0+i*sz) ((xs.drop j).flatMap enc)) (0+(i+(xs.length-j))*sz) (m8 z (j-i)),T,(0,0))→Own enc sz T base h2 (.slice (some ⟨b,0,none⟩) (i+(xs.length-j)) cap) (xs.take i++xs.drop j):=by
    intro h2 hb2
    have hl2:(xs.take i++xs.drop j).length=i+(xs.length-j):=by simp;omega
    have hf2:((xs.take i++xs.drop j).flatMap enc).length=(i+(xs.length-j))*sz:=by rw[fL hsz,hl2]
    have hzl:(m8 z (j-i)).length=(j-i)*sz:=by rw[B7,hz]
    have hrest:(((xs.drop i).flatMap enc++cs).drop ((xs.length-j)*sz)).length+(i+(xs.length-j))*sz=cap*sz:=by
     have h1:=congrArg List.length hcells
     rw[J4,hl,l_m,hf2]at h1
     omega
    rw[hcells,Nat.zero_add,←hf2,v6 _ _ [] _ rfl _ (by rw[hzl];omega),l_q]at hb2
    refine .inr ⟨b,cap,_,by rw[hl2],hb,by rw[hl2];omega,h63',hb2,?_⟩
    rw[l_m,hf2,l_m,hzl,L8]
    omega
   refine a1u [b] ?_
   by_cases hjc:j<cap
   ·refine Xa ?_
    refine a3T (n:=i) (m:=xs.length-j) (c:=cap) (off:=0) (new:=(xs.drop j).flatMap enc) rfl (hsrc _ _ (.inl rfl)) (by omega) hblk (by rw[hl,hdl j];omega) (v9 _) (Q6 hpl _) ?_
    intro h1 hb1 hf1 hs1
    have e:xs.length-(i+(xs.length-j))=j-i:=by omega
    have e':(i+(xs.length-j))*sz=0+(i+(xs.length-j))*sz:=by omega
    refine Xc hf1 e ?_
    rw[e']
    refine a0V hb1 (by rw[J4,hl,B7,hz];omega) (v9 _) (hzp _) ?_
    intro h2 hb2 hf2 hs2
    refine Xa ?_
    exact hK _ _ ⟨hres _ hb2,hf1.trans hf2,fun b hb=>hb⟩
   ·obtain rfl:j=cap:=by omega
    obtain rfl:xs.length=j:=by omega
    refine Xa ?_
    have hm0:xs.length-xs.length=0:=by omega
    rw[hm0]at hsrc hres hcells hnew hmi
    refine a3T (n:=i) (m:=0) (c:=xs.length) (off:=0) (new:=(xs.drop xs.length).flatMap enc) rfl (hsrc _ _ (.inr rfl)) (by omega) hblk (by rw[hl,hdl];omega) (v9 _) (Q6 hpl _) ?_
    intro h1 hb1 hf1 hs1
    have e':i*sz=0+(i+0)*sz:=by omega
    refine Xb hf1 ?_
    rw[e']
    refine a0V hb1 (by rw[J4,hl,B7,hz];omega) (v9 _) (hzp _) ?_
    intro h2 hb2 hf2 hs2
    refine Xa ?_
    exact hK _ _ ⟨hres _ hb2,hf1.trans hf2,fun b hb=>hb⟩
  ·have:i=j:=by omega
   subst this
   exact hK _ _ ⟨by rw[G3];exact .inr ⟨b,cap,cs,rfl,hb,hle,h63',hblk,hl⟩,Fr.refl _ _,fun b hb=>hb⟩
theorem b8g(hsz:∀x,(enc x).length=sz):∀(ys:List α) (i:Nat) (y:α) (cs:List Value),i<ys.length→u6 (ys.flatMap enc++cs) (i*sz) (enc y)=(ys.set i y).flatMap enc++cs:=by
 intro ys i y cs hi
 have hlt:((ys.take i).flatMap enc).length=i*sz:=by rw[fL hsz,v8,Nat.min_eq_left (by omega)]
 have h1:ys.flatMap enc=(ys.take i).flatMap enc++(enc ys[i]++(ys.drop (i+1)).flatMap enc):=by
  rw[Q7 enc ys i,X0 hi,X1]
 rw[h1,l_q,l_q,←hlt,a2Z _ _ _ _ (by rw[hsz,hsz]),List.set_eq_take_append_cons_drop,if_pos hi]
 simp
theorem Q8(p:α→Bool):∀(xs:List α) (k:Nat),(K2 p xs k= -1∧∀x∈xs,p x=false)∨∃i:Nat,K2 p xs k=((k+i:Nat):Int)∧i<xs.length∧(∀x∈xs.take i,p x=false)∧∀x,xs[i]? =some x→p x=true
 | [],k=> .inl ⟨rfl,fun x hx=>by cases hx⟩
 |x::xs,k=>by
  simp only[K2]
  cases hp:p x
  ·simp only[Bool.false_eq_true,if_false]
   rw[show(k:Int)+1=((k+1:Nat):Int) by omega]
   rcases Q8 p xs (k+1)with⟨h1,h2⟩|⟨i,h1,h2,h3,h4⟩
   ·exact .inl ⟨h1,fun y hy=>by rcases List.mem_cons.1 hy with rfl|hy;exact hp;exact h2 y hy⟩
   ·refine .inr ⟨i+1,by rw[h1];congr 1;omega,by simpa using h2,fun y hy=> ?_,by simpa using h4⟩
    rw[a7b]at hy
    rcases List.mem_cons.1 hy with rfl|hy
    ·exact hp
    ·exact h3 y hy
  ·exact .inr ⟨0,by simp,by simp,by simp,by simp[hp]⟩
def a4l(fi T sz:Nat)(z:List Value):MFn:=MFn.mk (j4.seq (j4.ops [i9.mk (some 4) (MOp.p (j5.mov (Opd.c (Value.slice none 0 0)))) none]) (j4.seq (j4.ops [i9.mk (some 8) (MOp.p (j5.mov (Opd.t 0))) none,i9.mk (some 9) (MOp.p (j5.mov (Opd.t 1))) none,i9.mk (some 10) (MOp.e (Eff.call fi [Opd.t 8,Opd.t 9])) none,i9.mk (some 5) (MOp.p (j5.mov (Opd.t 10))) none]) (j4.seq (j4.seq (j4.ops [i9.mk (some 11) (MOp.p (j5.mov (Opd.t 5))) none,i9.mk (some 12) (MOp.p (j5.bin BinOp.eql (Opd.t 11) (Opd.c (Value.int IntKind.i64 (-1))))) none]) (j4.cond (Opd.t 12) (j4.seq (j4.ops [i9.mk (some 13) (MOp.p (j5.mov (Opd.t 0))) none,i9.mk (some 4) (MOp.p (j5.mov (Opd.t 13))) none]) j4.ret) j4.skip)) (j4.seq (j4.seq (j4.ops [i9.mk (some 14) (MOp.p (j5.mov (Opd.t 5))) none,i9.mk (some 15) (MOp.p (j5.bin BinOp.add (Opd.t 14) (Opd.c (Value.int IntKind.i64 1)))) none,i9.mk (some 6) (MOp.p (j5.mov (Opd.t 15))) none]) (j4.block 0 (j4.loop (j4.seq (j4.seq (j4.ops [i9.mk (some 16) (MOp.p (j5.mov (Opd.t 6))) none,i9.mk (some 17) (MOp.p (j5.mov (Opd.t 0))) none,i9.mk (some 18) (MOp.p (j5.len false (Opd.t 17))) none,i9.mk (some 19) (MOp.p (j5.bin BinOp.lss (Opd.t 16) (Opd.t 18))) none]) (j4.cond (Opd.t 19) j4.skip (j4.exit 0))) (j4.seq (j4.block 1 (j4.seq (j4.ops [i9.mk (some 22) (MOp.p (j5.mov (Opd.t 0))) none,i9.mk (some 23) (MOp.p (j5.mov (Opd.t 6))) none,i9.mk (some 24) (MOp.p (j5.idxS sz (Opd.t 22) (Opd.t 23))) none,i9.mk (some 25) (MOp.r (a1Z.loadN sz (Opd.t 24))) none,i9.mk (some 7) (MOp.e (Eff.alloc T z)) none,i9.mk none (MOp.e (Eff.store sz (Opd.t 7) (Opd.t 25))) none]) (j4.seq (j4.ops [i9.mk (some 26) (MOp.p (j5.mov (Opd.t 1))) none,i9.mk (some 27) (MOp.r (a1Z.loadN sz (Opd.t 7))) none,i9.mk (some 28) (MOp.e (Eff.callv (Opd.t 26) [Opd.t 27])) none,i9.mk (some 29) (MOp.p (j5.un UnOp.not (Opd.t 28))) none]) (j4.cond (Opd.t 29) (j4.seq (j4.ops [i9.mk (some 30) (MOp.p (j5.mov (Opd.t 0))) none,i9.mk (some 31) (MOp.p (j5.mov (Opd.t 5))) none,i9.mk (some 32) (MOp.r (a1Z.loadN sz (Opd.t 7))) none,i9.mk (some 33) (MOp.p (j5.idxS sz (Opd.t 30) (Opd.t 31))) none,i9.mk none (MOp.e (Eff.store sz (Opd.t 33) (Opd.t 32))) none]) (j4.ops [i9.mk (some 34) (MOp.p (j5.mov (Opd.t 5))) none,i9.mk (some 35) (MOp.p (j5.bin BinOp.add (Opd.t 34) (Opd.c (Value.int IntKind.i64 1)))) none,i9.mk (some 5) (MOp.p (j5.mov (Opd.t 35))) none])) j4.skip)))) (j4.ops [i9.mk (some 20) (MOp.p (j5.mov (Opd.t 6))) none,i9.mk (some 21) (MOp.p (j5.bin BinOp.add (Opd.t 20) (Opd.c (Value.int IntKind.i64 1)))) none,i9.mk (some 6) (MOp.p (j5.mov (Opd.t 21))) none])))))) (j4.seq (j4.ops [i9.mk (some 36) (MOp.p (j5.mov (Opd.t 0))) none,i9.mk (some 37) (MOp.p (j5.mov (Opd.t 5))) none,i9.mk (some 38) (MOp.p (j5.cutS sz (Opd.t 36) (some (Opd.t 37)) none none)) none,i9.mk none (MOp.e (Eff.clear sz z (Opd.t 38))) none]) (j4.seq (j4.ops [i9.mk (some 39) (MOp.p (j5.mov (Opd.t 0))) none,i9.mk (some 40) (MOp.p (j5.mov (Opd.t 5))) none,i9.mk (some 41) (MOp.p (j5.cutS sz (Opd.t 39) none (some (Opd.t 40)) none)) none,i9.mk (some 4) (MOp.p (j5.mov (Opd.t 41))) none]) j4.ret)))))) [a3m.tmp 4] 42
theorem a7W{base:Nat}{f fi:FuncId}(hc:a0X P f=some (a4l fi T sz z))(hci:a0X P fi=some (a2m sz))(hsz:∀x,(enc x).length=sz)(h0:0<sz)(hpl:∀x,pC (enc x)=true)(hz:z.length=sz)(hzp:∀n,pC (m8 z n)=true)
  {v:Value} (ho:Own enc sz T base h v xs) (hroom:xs.length<1000000000) {fv:Value}{p:α→Bool} (hp:a5P P enc h (i6 v) fv p):
  d8 P f [v,fv] h fun v' h'=>Own enc sz T base h' v' (xs.filter fun x=> !p x)∧Fr h h' (i6 v)∧∀b∈i6 v',b∈i6 v:=by
 obtain⟨A,c,rfl⟩:=ho.slice
 refine eK hc (l_a rfl) fun K hK=> ?_
 refine Xb @a4l.eq_1 ?_
 refine cI (T3 hci (ho.arr hsz).1 rfl (by omega) hp) ?_
 rintro _ h1 ⟨rfl,hf1⟩
 have ho1:=ho.fr hf1 (fun _ _=>by simp)
 rcases Q8 p xs 0 with⟨hx,hall⟩|⟨i,hx,hi,hbef,hat⟩
 ·rw[show K2 p xs 0= -1 from hx]
  refine Xa ?_
  refine hK _ _ ⟨?_,hf1.mono fun _ _ hm=>absurd hm l_d,fun b hb=>hb⟩
  rw[List.filter_eq_self.2 fun x hx=>by rw[hall x hx];rfl]
  exact ho1
 ·rw[show K2 p xs 0=(i:Int) by simpa using hx]
  rcases ho1 with⟨hv,rfl⟩|⟨b,cap,cs,hv,hb,hle,h63',hblk,hl⟩
  ·simp at hi
  injection hv with e1 _ e3
  subst e1 e3
  have hrow:∀(h':c9) (ys:List α),blk h' b=some (ys.flatMap enc++cs,T,(0,0))→ys.length=xs.length→∀k (hk:k<ys.length),rdN h' b (k*sz) sz=some (enc ys[k]):=by
   intro h' ys hb' hly k hk
   have h1:(k+1)*sz≤c*sz:=a1b _ (by omega)
   rw[Nat.succ_mul]at h1
   have h2:(ys.flatMap enc++cs).length=c*sz:=by rw[←hl,l_m,l_m,fL hsz,fL hsz,hly]
   rw[n7 hb' (by rw[h2];exact h1),a4g hsz ys cs k hk]
  have hbl:i6 (.slice (some ⟨b,0,none⟩) xs.length c)=[b]:=rfl
  rw[hbl]at hp hK
  have hf1':Fr h h1 [b]:=hf1.mono fun _ _ hm=>absurd hm l_d
  refine Xa ?_
  refine lI (fun ρ h'=>Fr h h' [b]∧ρ 0= .slice (some ⟨b,0,none⟩) xs.length c∧ρ 1=fv∧∃(ys:List α) (i j:Nat),ρ 5= .int .i64 i∧ρ 6= .int .i64 j∧blk h' b=some (ys.flatMap enc++cs,T,(0,0))∧ys.length=xs.length∧i<j∧j≤xs.length∧
    ys.take i=(xs.take j).filter (fun x=> !p x)∧ys.drop j=xs.drop j) (fun ρ _=>xs.length-(iv (ρ 6)).toNat) ?_ ?_
  ·refine Xa ?_
   refine⟨hf1',xs,i,i+1,rfl,rfl,hblk,rfl,by omega,by omega,?_,rfl⟩
   rw[l_t hi,List.filter_append,List.filter_eq_self.2 fun x hx=>by rw[hbef x hx];rfl]
   have:=hat xs[i] (l_r hi)
   simp[this]
  ·rintro ρ h' J hJ ⟨hf,e0,e1,ys,i,j,e5,e6,hb',hly,hij,hj,hta,hdr⟩
   have hltb:=F0 hb'
   have hszh:=hf.size
   refine Xc e0 e6 ?_
   (generalize hg:dcd _=bb;cases bb<;>(first|replace hg:=x9 hg|replace hg:=n9 hg)<;>(try simp(disch:=first|omega|assumption|((repeat' (first|exact Fr.refl _ _|assumption|(refine Fr.via (by assumption) ?_ (by intro i hi hm;first|exact hm|exact l_l _ hm|exact absurd hm l_d|(simp only[l_e,l_y,l_d,or_false]at hm⊢;omega)))|refine Fr.push ?_ _|(refine Fr.setM ?_ ?_ _; · first|exact l_n|(simp only[l_e,true_or,or_true];done))|(refine Fr.setN ?_ ?_ _; · first|omega|(simp only[l_c,l_b];omega))));done)|(simp only[l_c,l_b,l_f,l_g,l_e,l_d,or_false,false_or,U8,not_or];done)|(simp only[l_c,l_b,l_f,l_g,l_e,l_d,or_false,false_or,not_or];omega)) only[go_sem,↓wBk,↓eA,↓eB,↓eS,sT,simprocAttr,e0,e1,e5,e6]))
   ·have hjn:j=xs.length:=by omega
    subst hjn
    have hl2:(ys.flatMap enc++cs).length=c*sz:=by rw[←hl,l_m,l_m,fL hsz,fL hsz,hly]
    rw[D4]at hta
    have hzl:(m8 z (xs.length-i)).length=(xs.length-i)*sz:=by rw[B7,hz]
    have hmul:i*sz+(xs.length-i)*sz=xs.length*sz:=by rw[←Q9];congr 1;omega
    have hcap:xs.length*sz≤c*sz:=a1b _ hle
    have hlt':((ys.take i).flatMap enc).length=i*sz:=by rw[fL hsz,v8,Nat.min_eq_left (by omega)]
    refine a0V hb' (by rw[hl2,hzl];omega) (v9 _) (hzp _) ?_
    intro h2 hb2 hf2 hs2
    refine Xc e0 e5 ?_
    refine hK _ _ ⟨?_,hf.trans hf2,fun b hb=>hb⟩
    rw[←hta]
    rw[Q7 enc ys i,l_q,v6 _ _ [] _ hlt'.symm _ (by rw[hzl,l_m,fL hsz,L8,hly];omega),l_q]at hb2
    have hln:(ys.take i).length=i:=by rw[v8,Nat.min_eq_left (by omega)]
    refine .inr ⟨b,c,_,by rw[hln],hb,by rw[hln];omega,h63',hb2,?_⟩
    simp only[l_m,hlt',hzl,L8,fL hsz,hly]at hl⊢
    omega
   ·have hjlt:j<ys.length:=by omega
    have hr:=hrow h' ys hb' hly j hjlt
    have hlj:(enc ys[j]).length=sz:=hsz _
    have htk:∀y,List.take sz (enc y)=enc y:=fun y=>a2o (by rw[hsz];exact v9 _)
    have hsp:∀y,u6 z 0 (enc y)=enc y:=fun y=>by
     have:=v6 [] z [] 0 rfl (enc y) (by rw[hsz,hz];exact v9 _)
     rw[l_k,l_k]at this
     rw[this,List.drop_of_length_le (by rw[hsz,hz];exact v9 _),D6]
    have hxj:ys[j]=xs[j]:=by
     have h3:=congrArg (fun l=>l[0]?) hdr
     simp only[List.getElem?_drop,H8]at h3
     rw[l_r hjlt,l_r (by omega)]at h3
     exact Option.some.inj h3
    refine Xi e0 e1 e5 e6 hr hb' hsz (Pd hpl hsp htk) ?_
    refine hp.call (by(exact FRR)) fun h2 hf2=> ?_
    have hsz2:=hf2.size
    simp only[l_c,l_b]at hsz2
    have hri:i*sz+sz≤(ys.flatMap enc++cs).length:=by
     have h5:(i+1)*sz≤ys.length*sz:=a1b _ (by omega)
     rw[Nat.succ_mul]at h5
     rw[l_m,fL hsz]
     omega
    cases hpj:p ys[j]
    ·refine Xi e0 e1 e5 e6 hr hb' hsz (Pf hpl hsp htk @hf2.blk @hf2.rdN) ?_
     refine hJ _ _ ?_ ?_
     ·refine Xf e0 e1 e5 @hf2.blk hb' ?_
      rw[b8g hsz ys i ys[j] cs (by omega)]
      refine⟨by(exact FRR),ys.set i ys[j],i+1,j+1,rfl,rfl,rfl,by simpa using hly,by omega,by omega,?_,?_⟩
      ·rw[l_t (by simp;omega),List.take_set_of_le (v9 _),hta,List.getElem_set_self,l_t (i:=j) (by omega),List.filter_append]
       simp[←hxj,hpj]
      ·rw[List.drop_set_of_lt (by omega),←List.drop_drop,hdr,List.drop_drop]
     ·refine Xb e6 ?_
      omega
    ·refine Xe e0 e1 e5 e6 ?_
     refine hJ _ _ ?_ ?_
     ·refine Xf e0 e1 e5 @hf2.blk hb' ?_
      refine⟨by(exact FRR),ys,i,j+1,rfl,rfl,rfl,hly,by omega,by omega,?_,?_⟩
      ·rw[hta,l_t (by omega),List.filter_append]
       simp[←hxj,hpj]
      ·rw[←List.drop_drop,hdr,List.drop_drop]
     ·refine Xb e6 ?_
      omega
end
end
theorem b3G:∀n,pC (m8 [Value.int IntKind.i64 0,Value.int IntKind.i64 0,Value.int IntKind.i64 0,Value.int IntKind.i64 0,Value.int IntKind.i64 0,Value.int IntKind.i64 0] n)=true
 |0=>rfl
 |n+1=>by simp only[m8,l_j,l_k,a9a,b3G n]
theorem b0q{h:c9}{A:Option Addr}{n c:Nat}{xs:List Msg}(ha:Arr Msg.enc 6 h A xs)(hn:n=xs.length)(hA:A=none→xs=[])(hl:xs.length<1000000000):
  d8 Tryz.prog 110 [.slice A n c] h fun v h'=>Own Msg.enc 6 128 h.size h' v xs∧Fr h h' []∧(A=none→v= .slice none 0 0):=
 P7 (T:=128) (sz:=6) (bytes:=48) i110.2 enc_len (by omega) enc_plain rfl ha hn hA (by omega) (by omega)
theorem Own.nilA{α:Type}{enc:α→List Value}{sz T base:Nat}{h:c9}{A:Option Addr}{n c:Nat}{xs:List α}(ho:Own enc sz T base h (.slice A n c) xs):A=none→xs=[]:=by
 rintro rfl
 rcases ho with⟨hv,rfl⟩|⟨b,cap,cs,hv,_⟩
 ·rfl
 ·cases hv
theorem a0K.fr{base:Nat}{h h':c9}{o:Nat}{s:Value}{next:Int}{l:List Msg}{M:List Nat}(hi:a0K base h o s next l)(hf:Fr h h' M)(hm:∀b,b=o∨b∈i6 s→b∉M):a0K base h' o s next l:=
 ⟨by rw[hf.blk hi.lt (hm _ (.inl rfl))];exact hi.blk,hi.ge,hi.own.fr hf fun b hb=>hm b (.inr hb),hi.apart⟩
def n6(rma:Int)(l:List Msg):Nat:=(l.filter fun m=>decide (m.rma=rma∧m.kind≠1)).length
theorem b8r(key:Int){h:c9}{k:Nat}{M:List Nat}(hk:rd1 h (.pointer (some ⟨k,0,none⟩))=some (.int .i64 key))(hlt:k<h.size)(hm:k∉M):
  a5P Tryz.prog Msg.enc h M (.func (.func 209) #[] (List.toArray [.pointer (some ⟨k,0,none⟩)])) fun m=>decide (m.key=key):=by
 refine⟨_,_,rfl,a0O,fun x h' hf=> ?_⟩
 have h1:rd1 h' (.pointer (some ⟨k,0,none⟩))=some (.int .i64 key):=by rw[hf.rd1 hlt hm];exact hk
 have:=hf.size
 refine EN i209.eq_1 fun K hK=> ?_
 refine Xa ?_
 refine Xd h1 @Msg.enc.eq_1 @X8 ?_
 refine hK _ _ ⟨rfl,by(exact FRR)⟩
theorem c1g(rma kind:Int){h:c9}{k1 k2:Nat}{M:List Nat}(hk1:rd1 h (.pointer (some ⟨k1,0,none⟩))=some (.int .i64 rma))(hk2:rd1 h (.pointer (some ⟨k2,0,none⟩))=some (.int .i64 kind))(hlt1:k1<h.size)(hlt2:k2<h.size)(hm1:k1∉M)(hm2:k2∉M):
  a5P Tryz.prog Msg.enc h M (.func (.func 201) #[] (List.toArray [.pointer (some ⟨k1,0,none⟩),.pointer (some ⟨k2,0,none⟩)])) fun m=>decide (m.rma=rma∧m.kind=kind):=by
 refine⟨_,_,rfl,a1f,fun x h' hf=> ?_⟩
 have h1:rd1 h' (.pointer (some ⟨k1,0,none⟩))=some (.int .i64 rma):=by rw[hf.rd1 hlt1 hm1];exact hk1
 have h2:rd1 h' (.pointer (some ⟨k2,0,none⟩))=some (.int .i64 kind):=by rw[hf.rd1 hlt2 hm2];exact hk2
 have:=hf.size
 refine EN i201.eq_1 fun K hK=> ?_
 refine Xa ?_
 refine Xd h1 h2 @Msg.enc.eq_1 ?_
 (generalize hg:dcd _=bb;cases bb<;>(first|replace hg:=x9 hg|replace hg:=n9 hg)<;>(try simp(disch:=first|omega|assumption|((repeat' (first|exact Fr.refl _ _|assumption|(refine Fr.via (by assumption) ?_ (by intro i hi hm;first|exact hm|exact l_l _ hm|exact absurd hm l_d|(simp only[l_e,l_y,l_d,or_false]at hm⊢;omega)))|refine Fr.push ?_ _|(refine Fr.setM ?_ ?_ _; · first|exact l_n|(simp only[l_e,true_or,or_true];done))|(refine Fr.setN ?_ ?_ _; · first|omega|(simp only[l_c,l_b];omega))));done)|(simp only[l_c,l_b,l_f,l_g,l_e,l_d,or_false,false_or,U8,not_or];done)|(simp only[l_c,l_b,l_f,l_g,l_e,l_d,or_false,false_or,not_or];omega)) only[go_sem,↓wBk,↓eA,↓eB,↓eS,sT,simprocAttr,h1,h2,Msg.enc]))
 ·refine hK _ _ ⟨by simp[hg],by(exact FRR)⟩
 ·refine hK _ _ ⟨by simp[hg,X8],by(exact FRR)⟩
theorem b6Z(key:Int){base:Nat}{h:c9}{o:Nat}{s:Value}{next:Int}{l:List Msg}(hi:a0K base h o s next l)(hl:l.length<1000000):
  d8 Tryz.prog 154 [.pointer (some ⟨o,0,none⟩),.int .i64 key] h fun v h'=>
   ((K2 (fun m:Msg=>decide (m.key=key)) l 0= -1∧v= .tuple #[.agg Msg.zero.enc.toArray,.bool false]∧a0K base h' o s next l)∨
    ∃i:Nat,∃hil:i<l.length,K2 (fun m:Msg=>decide (m.key=key)) l 0=i∧v= .tuple #[.agg l[i].enc.toArray,.bool true]∧∃s',a0K base h' o s' next (l.take i++l.drop (i+1))∧∀b∈i6 s',b∈i6 s)∧Fr h h' (o::i6 s):=by
 have hlt:=hi.lt
 have hap:=hi.apart
 have hge:=hi.ge
 have hown:=hi.own
 have hs1:h.size∉i6 s:=fun hm=>by have:=(hi.own.lt _ hm).1;omega
 have hs2:h.size+1∉i6 s:=fun hm=>by have:=(hi.own.lt _ hm).1;omega
 obtain⟨A,c,rfl⟩:=hi.own.slice
 refine EN i154.eq_1 fun K hK=> ?_
 (refine Xa ?_;try exact⟨⟩)
 simp(disch:=first|omega|assumption|(simp only[l_c,l_b,l_f,l_g,l_e,l_d,or_false,false_or,U8,not_or];done)|(simp only[l_c,l_b,l_f,l_g,l_e,l_d,or_false,false_or,not_or];omega)) only[go_sem,↓wBk,↓eA,↓eB,↓eS,sT,simprocAttr,j3 hi.blk]
 have ho1:Own Msg.enc 6 128 base ((h.push (.cells #[Value.int IntKind.i64 key] 3)).push (.cells #[Value.int IntKind.i64 0,Value.int IntKind.i64 0,Value.int IntKind.i64 0,Value.int IntKind.i64 0,Value.int IntKind.i64 0,Value.int IntKind.i64 0] 128)) (.slice A l.length c) l:=hi.own.fr (M:=[]) (by(exact FRR)) (fun _ _=>by simp)
 refine cI (T3 (sz:=6) (p:=fun m:Msg=>decide (m.key=key)) i208.2 (ho1.arr enc_len).1 rfl (by omega) (b8r key (k:=h.size) (M:=[]) ?_ ?_ ?_)) ?_
 ·(refine Xa ?_;try exact⟨⟩)
 ·simp;omega
 ·simp
 rintro _ h1 ⟨rfl,hf1⟩
 have hsz1:=hf1.size
 simp only[l_c]at hsz1
 have hi1:a0K base h1 o (.slice A l.length c) next l:=(hi.fr (M:=[]) (by(exact FRR)) (fun _ _=>by simp)).fr hf1 (fun _ _=>by simp)
 rcases Q8 (fun m:Msg=>decide (m.key=key)) l 0 with⟨hx,hall⟩|⟨i,hx,hil,hbef,hat⟩
 ·have hx':K2 (fun m:Msg=>decide (m.key=key)) l 0= -1:=hx
  rw[hx']
  (refine Xb @hf1.blk ?_;try exact⟨⟩)
  refine hK _ _ ⟨.inl ⟨hx',rfl,?_⟩,?_⟩
  ·exact hi1.fr (M:=[h.size+1]) (by(exact FRR)) (fun b hb=>by
    rcases hb with rfl|hb
    ·simp;omega
    ·have:=(hown.lt b hb).1
     simp;omega)
  ·(exact FRR)
 ·have hx':K2 (fun m:Msg=>decide (m.key=key)) l 0=(i:Int):=by simpa using hx
  rw[hx']
  obtain⟨b,off,rfl,hr⟩:=(hi1.own.arr enc_len).1.at hil
  simp(disch:=first|omega|assumption|(simp only[l_c,l_b,l_f,l_g,l_e,l_d,or_false,false_or,U8,not_or];done)|(simp only[l_c,l_b,l_f,l_g,l_e,l_d,or_false,false_or,not_or];omega)) only[go_sem,↓wBk,↓eA,↓eB,↓eS,sT,simprocAttr,j3 hi1.blk,hr,Msg.enc]
  rw[show(i:Int)+1=((i+1:Nat):Int)from rfl]
  have hnb:o≠b:=fun e=>hap (by simp[i6,e])
  have hbn:b≠h.size∧b≠h.size+1:=⟨fun e=>hs1 (by simp[i6,e]),fun e=>hs2 (by simp[i6,e])⟩
  have hltb:=(hi1.own.lt b (by simp[i6])).1
  have ho2:Own Msg.enc 6 128 base _ (.slice (some ⟨b,off,none⟩) l.length c) l:=(hi1.own.fr (h':=h1.push (.cells #[Value.int IntKind.i64 0,Value.int IntKind.i64 0,Value.int IntKind.i64 0,Value.int IntKind.i64 0,Value.int IntKind.i64 0,Value.int IntKind.i64 0] 128)) (M:=[]) (by(exact FRR)) (fun _ _=>by simp))
  refine cI (b5L (sz:=6) (T:=128) (bytes:=48) (i:=i) (j:=i+1) i210.2 enc_len (by omega) enc_plain rfl b3G (hi1.own.keep (fun b' hb'=> ?_)) (by omega) (by omega) (by omega)) ?_
  ·simp only[i6,T9]at hb'
   subst hb'
   (refine Xa ?_;try exact⟨⟩)
  rintro v' h2 ⟨ho3,hf2,hb2⟩
  have hsz2:=hf2.size
  simp only[l_c,l_b]at hsz2
  obtain⟨A',c',rfl⟩:=ho3.slice
  have hob:o∉i6 (.slice (some ⟨b,off,none⟩) l.length c):=hap
  have hnn:h.size+1∉i6 (.slice (some ⟨b,off,none⟩) l.length c):=hs2
  have hn1:h1.size∉i6 (.slice (some ⟨b,off,none⟩) l.length c):=fun hm=>by simp only[i6,T9]at hm;omega
  (refine Xe @hf2.blk @hf2.rdN @hi1.blk @hf1.blk ?_;try exact⟨⟩)
  have hsub:∀q∈i6 (.slice A' (l.take i++l.drop (i+1)).length c'),q=b:=fun q hq=>by simpa[i6]using hb2 q hq
  refine hK _ _ ⟨.inr ⟨i,hil,hx',rfl,_,⟨?_,hge,(ho3.set (fun hm=>hnb (hsub _ hm))).set (fun hm=>hbn.2 (hsub _ hm).symm),fun hm=>hnb (hsub _ hm)⟩,hb2⟩,?_⟩
  ·(refine Xa ?_;try exact⟨⟩)
  ·(exact FRR)
end Go.Proofs.YtjagmebglhbdkaaGreat.MX
