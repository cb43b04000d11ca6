import Derived.Test.YtjagmebglhbdkaaGreatK22
import Derived.Test.YtjagmebglhbdkaaGreatK13
import Derived.Test.YtjagmebglhbdkaaGreatK08
import Derived.Test.YtjagmebglhbdkaaGreatIR
import Derived.Test.YtjagmebglhbdkaaGreatK12
namespace Go.Proofs.YtjagmebglhbdkaaGreat.MX
open Go Go.Proofs
set_option linter.unusedSimpArgs false
set_option linter.unusedVariables false
section
set_option maxHeartbeats 4000000
structure Tm where
 day:Int
 num:Int
deriving DecidableEq
def tmE(x:Tm):List Value:=[.int .i64 x.day,.int .i64 x.num]
theorem s9(x:Tm):(tmE x).length=2:=rfl
theorem H5(x:Tm):pC (tmE x)=true:=rfl
abbrev tmz:List Value:=[.int .i64 0,.int .i64 0]
theorem a9L:∀n,pC (n8 tmz n)=true
 |0=>rfl
 |n+1=>by
  have:=a9L n
  simp only[n8,tmz,l_j,l_k,pC]
  rw[this];rfl
section
variable{h:c9}{v:Value}{xs:List Tm}
theorem b5Z{i g:Nat}{x:Tm}(ho:V4 tmE 2 138 h v xs)(hi:i≤xs.length)(hroom:xs.length<1000000)(hgb:blk h g=some (tmE x,138,(0,0)))(hgv:g∉i9 v):
  d8 Tryz.prog 196 [v,.int .i64 i,.slice (some ⟨g,0,none⟩) 1 1] h fun v' h'=>V4 tmE 2 138 h' v' (xs.take i++x::xs.drop i)∧Fr h h' (i9 v)∧∀b∈i9 v',b∈i9 v∨h.size≤b:=by
 have hsg:∀h',blk h' g=blk h g→x7 h' 2 1 (.slice (some ⟨g,0,none⟩) 1 1)=some (tmE x):=fun h' e=>T0 rfl (by rw[v8 (by rw[e];exact hgb) (by simp[tmE])];rfl)
 by_cases hin:i=xs.length
 ·subst hin
  have key:∀{K:Value→c9→Prop}{s1:Tag h}{s2:Tag K},(∀v' h',(V4 tmE 2 138 h' v' (xs.take xs.length++x::xs.drop xs.length)∧Fr h h' (i9 v)∧∀b∈i9 v',b∈i9 v∨h.size≤b)→K v' h')→a6V 138 2 16 tmz v (.slice (some ⟨g,0,none⟩) 1 1) h K s1 s2:=by
   intro K s1 s2 hk
   refine c1A (ys:=[x]) s9 (by omega) H5 rfl ho rfl ?_ (by simp;omega) (by simp;omega) ?_
   ·simpa using hsg h rfl
   ·intro v' h' ho' hf hb
    exact hk _ _ ⟨by simpa using ho',hf,hb⟩
  obtain⟨A,c,rfl⟩:=ho.slice
  obtain⟨-,-,hlc,-⟩:=ho.arr s9
  refine EN i196.eq_1 fun K hK=> ?_
  (refine Wb @b8D ?_;try exact⟨⟩)
  refine key fun v' h' hq=> ?_
  (refine Wa ?_;try exact⟨⟩)
  exact hK _ _ hq
 have hlt:i<xs.length:=by omega
 have ho0:=ho
 rcases ho with⟨rfl,rfl⟩|⟨b,cap,pre,cs,post,rfl,hle,h63',hblk,hl⟩
 ·simp at hlt
 obtain⟨ha,-,-,-⟩:=ho0.arr s9
 have hxl:(xs.flatMap tmE).length=xs.length*2:=fL s9 xs
 have htl:((xs.take i).flatMap tmE).length=i*2:=by rw[fL s9,x4,Nat.min_eq_left hi]
 have hdl:((xs.drop i).flatMap tmE).length=(xs.length-i)*2:=by rw[fL s9,M2]
 have hwl:(pre++((xs.flatMap tmE++cs)++post)).length=pre.length+cap*2+post.length:=by rw[l_m,l_m,hl];omega
 have hbg:g≠b:=fun e=>hgv (by simp[i9,e])
 have hsd:∀h' n' c',blk h' b=blk h b→x7 h' 2 (xs.length-i) (.slice (some ⟨b,pre.length+i*2,none⟩) n' c')=some ((xs.drop i).flatMap tmE):=by
  intro h' n' c' e
  have ha':Arr tmE 2 h' (some ⟨b,pre.length,none⟩) xs:=((ho0.keep (h':=h') (by simp[i9,e])).arr s9).1
  have:=E9 (n:=xs.length-i) (c:=c') s9 (a8L ha' i) (by rw[M2])
  rw[M2]at this
  exact this
 have e1:((xs.length:Int)+1).toNat=xs.length+1:=by omega
 have e2:((i:Int)+1).toNat=i+1:=by omega
 have e3:(((xs.length+1:Nat):Int)-((i:Int)+1)).toNat=xs.length-i:=by omega
 have e4:((cap:Int)-((i:Int)+1)).toNat=cap-(i+1):=by omega
 have e5:(((xs.length+1:Nat):Int)-(i:Int)).toNat=xs.length+1-i:=by omega
 have hxi:(xs.drop i).flatMap tmE=tmE xs[i]++(xs.drop (i+1)).flatMap tmE:=by rw[X8 hlt,X9]
 have hdl1:((xs.drop (i+1)).flatMap tmE).length=(xs.length-(i+1))*2:=by rw[fL s9,M2]
 by_cases hcp:(cap:Int)<xs.length+1
 ·refine EN i196.eq_1 fun K hK=> ?_
  (refine Wb hcp ?_;try exact⟨⟩)
  refine b1h (base:=some ⟨b,pre.length,none⟩) (n:=i) (c:=cap) (sz:=2) (S:=104) (U:=3) (e:=138) (bytes:=16) (z:=tmz) (m:=xs.length+1-i) (old:=(xs.take i).flatMap tmE) rfl rfl rfl rfl (by kernel_rfl) (by kernel_rfl) (by kernel_rfl) (by kernel_rfl) (by kernel_rfl) (by decide) (by(refine Wa ?_;try exact⟨⟩)) (by(refine Wa ?_;try exact⟨⟩);exact congrArg _ (by omega)) (by omega) (by omega) (by omega) (by omega) ?_ ?_
  ·have:=E9 (n:=i) (c:=cap) s9 (b6k ha i) (by rw[x4,Nat.min_eq_left hi])
   rwa[x4,Nat.min_eq_left hi]at this
  ·intro c' h1 h2
   have en:i+(xs.length+1-i)=xs.length+1:=by omega
   have en2:((xs.length+1:Nat):Int)-(i:Int)=((xs.length+1-i:Nat):Int):=by omega
   have en3:xs.length+1-i=xs.length-i+1:=by omega
   rw[en]at h1⊢
   by_cases hic:(i:Int)<c'
   case neg=>omega
   (refine Wc e2 e3 ?_;try exact⟨⟩)
   refine a4q (m:=1) (new:=tmE x) rfl ?_ (C7 rfl) ?_ (x9 _) (H5 _) ?_
   ·have:min 1 (xs.length+1-i)=1:=by omega
    rw[this]
    exact hsg _ (G2 (F5 hgb))
   ·simp only[l_m,htl,B9]
    simp[tmE];omega
   intro h3 hb3 hf3 hs3
   rw[en3,show n8 tmz (xs.length-i+1)=tmz++n8 tmz (xs.length-i)from rfl,l_q,l_q,←htl,a3p _ _ _ _ (by rfl)]at hb3
   (refine Wa ?_;try exact⟨⟩)
   refine a1G [h.size] ?_
   (refine Wc e2 e3 ?_;try exact⟨⟩)
   have hob:blk h3 b=blk h b:=by
    rw[hf3.blk (F5 (by rw[G2 (F5 hblk)];exact hblk)) (by have:=F5 hblk;simp;omega),G2 (F5 hblk)]
   refine a4q (m:=xs.length-i) (new:=(xs.drop i).flatMap tmE) rfl (by rw[Nat.min_self];exact hsd h3 _ _ hob) hb3 ?_ (x9 _) (R4 H5 _) ?_
   ·simp only[l_m,htl,B9,hdl]
    simp[tmE];omega
   intro h4 hb4 hf4 hs4
   rw[←l_q,show(i+1)*2=((xs.take i).flatMap tmE++tmE x).length by rw[l_m,htl,s9];omega,a3p _ _ _ _ (by rw[hdl,B9];rfl)]at hb4
   (refine Wa ?_;try exact⟨⟩)
   refine hK _ _ ⟨.inr ⟨h.size,c',[],n8 tmz (c'-(xs.length+1)),[],?_,?_,h2,?_,?_⟩,?_,?_⟩
   ·simp;omega
   ·simp;omega
   ·rw[hb4];simp
   ·simp only[l_m,a1p,X9,htl,hdl,s9,B9]
    simp;omega
   ·have h5:=hf3.trans hf4
    refine⟨by have:=h5.size;simp at this;omega,fun b' hb' _=> ?_⟩
    rw[h5.same b' (by simp;omega) (by simp;omega),Array.getElem?_push,if_neg (by omega)]
   ·intro b' hb'
    simp only[i9,U1]at hb'
    omega
 ·refine EN i196.eq_1 fun K hK=> ?_
  (refine Wf hcp e1 e2 e3 e4 ?_;try exact⟨⟩)
  refine a9X (fn:=Option.get (Tryz.prog.funcs[224]?) (by kernel_rfl)) (oa:=0) (la:=1) (ca:=1) (ob:=pre.length+(i+1)*2) (lb:=xs.length-i) (cb:=cap-(i+1)) (S:=104) (R:=4) (e:=138) (sz:=2) rfl rfl rfl (Option.some_get _).symm (by kernel_rfl) (by kernel_rfl) (by kernel_rfl) (by kernel_rfl) (by kernel_rfl) (by kernel_rfl) (by(refine Wa ?_;try exact⟨⟩)) (by(refine We e1 e2 e3 e4 ?_;try exact⟨⟩)) hbg hgb hblk (by intro e;have:=congrArg List.length e;rw[hwl]at this;simp at this;omega) ?_
  (refine Wa ?_;try exact⟨⟩)
  refine a1G [b] ?_
  (refine Wf e1 e2 e3 e4 e5 ?_;try exact⟨⟩)
  refine a4q (m:=xs.length+1-i) (new:=(xs.drop i).flatMap tmE) rfl (by rw[show min (xs.length+1-i) (xs.length-i)=xs.length-i by omega];exact hsd h _ _ rfl) hblk (by rw[hwl,hdl];omega) (x9 _) (R4 H5 _) ?_
  intro h3 hb3 hf3 hs3
  (refine Wf e1 e2 e3 e4 e5 ?_;try exact⟨⟩)
  refine a4q (m:=1) (new:=tmE x) rfl ?_ hb3 (by rw[J5,hwl,s9];omega) (x9 _) (H5 _) ?_
  ·rw[show min 1 (xs.length+1-i)=1 by omega]
   exact hsg _ (hf3.blk (F5 hgb) (by simpa using hbg))
  intro h4 hb4 hf4 hs4
  (refine Wa ?_;try exact⟨⟩)
  have hcs:2≤cs.length:=by rw[l_m,hxl]at hl;omega
  have hsplit:xs.flatMap tmE++cs=((xs.take i).flatMap tmE++tmE xs[i])++((xs.drop (i+1)).flatMap tmE++cs):=by rw[R5 tmE xs i,hxi];simp only[l_q]
  have hin1:v5 (xs.flatMap tmE++cs) ((i+1)*2) ((xs.drop i).flatMap tmE)=(xs.take i).flatMap tmE++(tmE xs[i]++((xs.drop i).flatMap tmE++((xs.drop (i+1)).flatMap tmE++cs).drop ((xs.drop i).flatMap tmE).length)):=by
   rw[hsplit,v6 _ _ [] _ (by rw[l_m,htl,s9];omega) _ (by rw[l_m,hdl,hdl1];omega)]
   simp only[l_q]
  rw[a0D pre _ post _ (by omega) (k:=(i+1)*2) (by rw[hl,hdl];omega),hin1,a0D pre _ post _ rfl (by simp only[l_m,htl,s9];omega),←htl,a3p _ _ _ _ (by rfl)]at hb4
  refine hK _ _ ⟨.inr ⟨b,cap,pre,((xs.drop (i+1)).flatMap tmE++cs).drop ((xs.drop i).flatMap tmE).length,post,?_,?_,h63',?_,?_⟩,hf3.trans hf4,fun b' hb'=> .inl hb'⟩
  ·simp;omega
  ·simp;omega
  ·rw[hb4];simp
  ·simp only[l_m,a1p,X9,htl,hdl,hdl1,s9,M2]
   rw[l_m,hxl]at hl
   omega
end
end
section
set_option maxHeartbeats 4000000
def b6y(a b:Int):Int:=if a<b then-1 else if b<a then 1 else 0
def c2F(a b:Tm):Int:=if b6y a.day b.day=0 then b6y a.num b.num else b6y a.day b.day
def n7(a b:Tm):Prop:=a.day<b.day∨(a.day=b.day∧a.num<b.num)
instance (a b:Tm):Decidable (n7 a b):=by unfold n7;exact inferInstance
theorem b5n(a b:Tm):c2F a b<0↔n7 a b:=by
 unfold c2F b6y n7
 split<;>(rename_i h;revert h;repeat' split)<;>omega
theorem a0g(a:Int)(h:c9):d8 Tryz.prog 233 [.int .i64 a] h fun v h'=>v= .bool false∧h'=h:=by
 refine EN i233.eq_1 fun K hK=>Wa ?_
 exact hK _ _ ⟨rfl,rfl⟩
theorem a5P(a b:Int)(h:c9):d8 Tryz.prog 223 [.int .i64 a,.int .i64 b] h fun v h'=>v= .int .i64 (b6y a b)∧h'=h:=by
 unfold b6y
 by_cases h1:a<b
 ·refine EN i223.eq_1 fun K hK=>Wa ?_
  refine cI (a0g _ _) ?_
  rintro _ _ ⟨rfl,rfl⟩
  refine Wa ?_
  refine cI (a0g _ _) ?_
  rintro _ _ ⟨rfl,rfl⟩
  refine Wb h1 ?_
  exact hK _ _ ⟨by simp[h1],rfl⟩
 ·by_cases h2:b<a
  ·refine EN i223.eq_1 fun K hK=>Wa ?_
   refine cI (a0g _ _) ?_
   rintro _ _ ⟨rfl,rfl⟩
   refine Wa ?_
   refine cI (a0g _ _) ?_
   rintro _ _ ⟨rfl,rfl⟩
   refine Wc h1 h2 ?_
   exact hK _ _ ⟨by simp[h1,h2],rfl⟩
  ·refine EN i223.eq_1 fun K hK=>Wa ?_
   refine cI (a0g _ _) ?_
   rintro _ _ ⟨rfl,rfl⟩
   refine Wa ?_
   refine cI (a0g _ _) ?_
   rintro _ _ ⟨rfl,rfl⟩
   refine Wc h1 h2 ?_
   exact hK _ _ ⟨by simp[h1,h2],rfl⟩
theorem c3E(a b:Int){h:c9}{g c:Nat}(r0:rd1 h (.pointer (some ⟨g,0,none⟩))=some (.int .i64 a))(r1:rd1 h (.pointer (some ⟨g,1,none⟩))=some (.int .i64 b)):
  d8 Tryz.prog 222 [.slice (some ⟨g,0,none⟩) 2 c] h fun v h'=>v= .int .i64 (if a=0 then b else a)∧h'=h:=by
 by_cases ha:a=0
 ·by_cases hb:b=0
  ·refine EN i222.eq_1 fun K hK=>Wa ?_
   refine B7 3 ?_
   refine We r0 r1 ha hb ?_
   exact hK _ _ ⟨by simp[ha,hb],rfl⟩
  ·refine EN i222.eq_1 fun K hK=>Wa ?_
   refine B7 3 ?_
   refine We r0 r1 ha hb ?_
   exact hK _ _ ⟨by simp[ha,hb],rfl⟩
 ·refine EN i222.eq_1 fun K hK=>Wa ?_
  refine B7 3 ?_
  refine Wd r0 r1 ha ?_
  exact hK _ _ ⟨by simp[ha],rfl⟩
section
variable{h0 h:c9}{l:List HP}
theorem b9V(a b:Tm)(S:St h0 h l):d8 Tryz.prog 195 [.agg (tmE a).toArray,.agg (tmE b).toArray] h fun v h'=>v= .int .i64 (c2F a b)∧St h0 h' l:=by
 simp only[tmE]
 refine EN i195.eq_1 fun K hK=>Wa ?_
 (revert S;(try clear F);refine AL fun p h S F=> ?_)
 refine Wb F ?_
 (revert S;(try clear F);refine AL fun q h S F=> ?_)
 refine Wb F ?_
 have rq:∀off K t,j8 (fun h'=>St h0 h' _) (fun h'=>rd1 h' (.pointer (some ⟨q,off,none⟩))) K t=D7 ([Value.int .i64 b.day,Value.int .i64 b.num][off]?) K ⟨⟩:=fun off K t=>E7 S (fun h' s=>m8 s)
 have rp:∀off K t,j8 (fun h'=>St h0 h' _) (fun h'=>rd1 h' (.pointer (some ⟨p,off,none⟩))) K t=D7 ([Value.int .i64 a.day,Value.int .i64 a.num][off]?) K ⟨⟩:=fun off K t=>E7 S (fun h' s=>m8 s.p1)
 refine Z8 S ?_
 refine Wc rp rq ?_
 refine cI (a5P _ _ _) ?_
 rintro _ _ ⟨rfl,rfl⟩
 refine Wc rp rq ?_
 try refine⟨S,?_⟩
 refine Wc rp rq ?_
 refine cI (a5P _ _ _) ?_
 rintro _ _ ⟨rfl,rfl⟩
 refine Wc rp rq ?_
 try refine⟨S,?_⟩
 refine We rp rq @n8.eq_1 @n8.eq_2 ?_
 (revert S;(try clear F);refine AL fun g h S F=> ?_)
 try refine⟨S.tl,?_⟩
 refine Wb F ?_
 refine cI (c3E _ _ (m8 S) (m8 S)) ?_
 rintro _ _ ⟨rfl,rfl⟩
 refine Wa ?_
 try refine⟨S.tl,?_⟩
 refine Wa ?_
 exact hK _ _ ⟨rfl,S.tl.tl.tl⟩
def a8y(xs:List Tm)(x:Tm):Nat:=(xs.takeWhile (fun y=>decide (n7 y x))).length
theorem c2J{xs:List Tm}{x:Tm}{i:Nat}(hi:i≤xs.length)(h1:∀k (hk:k<xs.length),k<i→n7 xs[k] x)(h2:∀k (hk:k<xs.length),i≤k→¬n7 xs[k] x):a8y xs x=i:=by
 unfold a8y
 induction xs generalizing i with
 |nil=>simp at hi;simp[hi]
 |cons y ys ih=>
  rw[List.takeWhile_cons]
  cases i with
  |zero=>
   have:=h2 0 (by simp) (by omega)
   simp only[List.getElem_cons_zero]at this
   simp[this]
  |succ i=>
   have:=h1 0 (by simp) (by omega)
   simp only[List.getElem_cons_zero]at this
   simp only[this,decide_true,if_true,l_f]
   rw[ih (i:=i) (by simpa using hi) (fun k hk hki=>h1 (k+1) (by simpa using hk) (by omega)) (fun k hk hki=>h2 (k+1) (by simpa using hk) (by omega))]
theorem a1A{a b c:Tm}(h1:n7 a b)(h2:n7 b c):n7 a c:=by
 unfold n7 at*
 omega
theorem a7I{a b:Tm}{K:Value→c9→Prop}{s:Tag h}{t:Tag K}(S:St h0 h l)(hk:∀h',St h0 h' l→K (.int .i64 (c2F a b)) h'):a3I Tryz.prog (.func (.func 195) #[] #[]) [.agg (tmE a).toArray,.agg (tmE b).toArray] h K s t:=
 a8O (a:=[]) (b:=[]) a7G ((b9V a b S).mono fun v h' ⟨e,S'⟩=>e▸hk h' S')
theorem b6g{xs:List Tm}{x:Tm}{A:Option Addr}{c:Nat}(S:St h0 h l)(ha:∀h',St h0 h' l→Arr tmE 2 h' A xs)(hs:xs.Pairwise n7)(hn:xs.length<1000000):
  d8 Tryz.prog 194 [.slice A xs.length c,.agg (tmE x).toArray,.func (.func 195) #[] #[]] h fun v h'=>(∃b,v= .tuple #[.int .i64 (a8y xs x),.bool b])∧St h0 h' l:=by
 have hmono:∀j k (hj:j<xs.length) (hk:k<xs.length),j<k→n7 xs[j] xs[k]:=fun j k hj hk hjk=>List.pairwise_iff_getElem.1 hs j k hj hk hjk
 refine EN i194.eq_1 fun K hK=>Wa ?_
 (revert S;(try clear F);refine AL fun p h S F=> ?_)
 refine Wb F ?_
 have hrx:∀{h:c9} (S:St h0 h (d9 p (tmE x) 138::l)) (m:Nat) (hml:m<xs.length),∃bk off,A=some ⟨bk,off,none⟩∧∀K t,j8 (fun h'=>St h0 h' (d9 p (tmE x) 138::l)) (fun h'=>i7 (rdN h' bk (off+m*2) 2) fun cs=>some (.agg cs.toArray)) K t=D7 (some (.agg (tmE xs[m]).toArray)) K ⟨⟩:=by
  intro h S m hml
  obtain⟨b0,o0,hA,_⟩:=ha h S.tl m hml
  refine⟨b0,o0,hA,fun K t=>E7 S fun h' s=> ?_⟩
  obtain⟨b1,o1,hA1,hr1⟩:=ha h' s.tl m hml
  rw[hA]at hA1
  cases hA1
  rw[hr1];rfl
 have hrp:∀{h:c9} (S:St h0 h (d9 p (tmE x) 138::l)),∀K t,j8 (fun h'=>St h0 h' (d9 p (tmE x) 138::l)) (fun h'=>i7 (rdN h' p 0 2) fun cs=>some (.agg cs.toArray)) K t=D7 (some (.agg (tmE x).toArray)) K ⟨⟩:=by
  intro h S K t
  exact E7 S fun h' s=>by rw[M3 s (by simp[tmE])];rfl
 refine lI (fun ρ h'=>St h0 h' (d9 p (tmE x) 138::l)∧ρ 0= .slice A xs.length c∧ρ 2= .func (.func 195) #[] #[]∧ρ 4= .pointer (some ⟨p,0,none⟩)∧ρ 8= .int .i64 xs.length∧∃i j:Nat,ρ 9= .int .i64 i∧ρ 10= .int .i64 j∧i≤j∧j≤xs.length∧(∀k (hk:k<xs.length),k<i→n7 xs[k] x)∧(∀k (hk:k<xs.length),j≤k→¬n7 xs[k] x)) (fun ρ _=>(iv (ρ 10)).toNat-(iv (ρ 9)).toNat) ?_ ?_
 ·refine Wa ?_
  exact⟨S,0,xs.length,rfl,rfl,by omega,by omega,fun k hk h=>by omega,fun k hk h=>by omega⟩
 ·clear S F
  rintro ρ h J hJ ⟨S,e0,e2,e4,e8,i,j,e9,e10,hij,hj,h1,h2⟩
  refine Wc e9 e10 ?_
  refine cD (fun hlt=> ?_) (fun hlt=> ?_)
  ·have hm:IntKind.i64.wrap (((i:Int)+j).fdiv (2^min 1 64))=(((i+j)/2:Nat):Int):=by
    rw[show(2:Int)^min 1 64=2 from rfl,Int.fdiv_eq_ediv_of_nonneg _ (by omega),show((i:Int)+j)/2=(((i+j)/2:Nat):Int) by omega]
    exact u5 (by omega) (by omega)
   generalize hmd:(i+j)/2=m at hm
   have hml:m<xs.length:=by omega
   refine Wd e9 e10 hm ?_
   obtain⟨bk,off,rfl,rx⟩:=hrx S m hml
   have rp:=hrp S
   refine Z8 S ?_
   refine Wf e0 e2 e4 rx rp ?_
   refine a7I S fun h' S=> ?_
   refine Wa ?_
   try refine⟨S,?_⟩
   refine Wa ?_
   refine cD (fun ho=> ?_) (fun ho=> ?_)
   ·have ho:=(b5n _ _).1 ho
    refine Wa ?_
    refine hJ _ _ ⟨S,?_⟩ ?_
    ·refine Wf e0 e2 e4 e8 e10 ?_
     exact⟨m+1,j,rfl,rfl,by omega,hj,fun k hk hkm=>by
      by_cases hkm':k=m
      ·subst hkm';exact ho
      ·exact a1A (hmono k m hk hml (by omega)) ho,h2⟩
    ·refine Wc e9 e10 ?_
     omega
   ·have ho:=fun h=>ho ((b5n _ _).2 h)
    refine Wa ?_
    refine hJ _ _ ⟨S,?_⟩ ?_
    ·refine Wf e0 e2 e4 e8 e9 ?_
     exact⟨i,m,rfl,rfl,by omega,by omega,h1,fun k hk hkm=>by
      by_cases hkm':k=m
      ·subst hkm';exact ho
      ·exact fun h=>ho (a1A (hmono m k hml hk (by omega)) h)⟩
    ·refine Wc e9 e10 ?_
     omega
  ·obtain rfl:i=j:=by omega
   have hpos:a8y xs x=i:=c2J hj h1 h2
   by_cases hin:(i:Int)<xs.length
   ·obtain⟨bk,off,rfl,rx⟩:=hrx S i (by omega)
    have rp:=hrp S
    refine Wc e9 e8 ?_
    refine Z8 S ?_
    refine Wi e0 e2 e4 e8 e9 rx rp hin ?_
    refine a7I S fun h' S=> ?_
    refine Wa ?_
    try refine⟨S,?_⟩
    refine Wa ?_
    exact hK _ _ ⟨⟨_,by rw[hpos]⟩,S.tl⟩
   ·refine Wc e9 e8 ?_
    refine Z8 S ?_
    refine Wg e0 e2 e4 e8 e9 hin ?_
    exact hK _ _ ⟨⟨_,by rw[hpos]⟩,S.tl⟩
end
end
section
set_option maxHeartbeats 4000000
def H2(t:Nat)(L:List Tm):HP:=exA fun s=>a2S (d9 t [s] 106) (a6n tmE 2 138 s L)
def a0n(L:List Tm):Prop:=L.Pairwise n7∧L.Pairwise (fun a b=>a.num≠b.num)
def Z6(n:Int)(x:Tm):Bool:=decide (x.num=n)
def without(L:List Tm)(n:Int):List Tm:=L.filter fun x=> !Z6 n x
section
variable{h0 h:c9}{l:List HP}{t:Nat}{L:List Tm}
theorem St.tim:St h0 h (H2 t L::l)↔∃s,St h0 h (d9 t [s] 106::a6n tmE 2 138 s L::l):=by
 unfold H2
 rw[St.ex]
 simp only[St.star]
theorem St.timO{s:Value}(S:St h0 h (d9 t [s] 106::a6n tmE 2 138 s L::l)):∃A c,s= .slice A L.length c:=S.p1.offSl
theorem c4i{h:c9}{q:Nat}{n:Int}(hq:blk h q=some ([.int .i64 n],3,(0,0))):
  a6k Tryz.prog tmE h [] (.func (.func 227) #[] (List.toArray [.pointer (some ⟨q,0,none⟩)])) (Z6 n):=by
 refine⟨_,_,rfl,a2J,fun x h' hf=> ?_⟩
 have hr:rd1 h' (.pointer (some ⟨q,0,none⟩))=some (.int .i64 n):=by rw[hf.rd1 (F5 hq) (by simp),j3 hq];rfl
 have S:=St.nil h'
 simp only[tmE]
 refine EN i227.eq_1 fun K hK=>Wa ?_
 (revert S;(try clear F);refine AL fun p h S F=> ?_)
 have hr:rd1 h (.pointer (some ⟨q,0,none⟩))=some (.int .i64 n):=by rw[S.fr.rd1 (Nat.lt_of_lt_of_le (F5 hq) hf.size) (by simp)];exact hr
 refine Wc F hr ?_
 exact hK _ _ ⟨by rw[Y8];rfl,S.fr⟩
theorem c4V(n:Int)(S:St h0 h (H2 t L::l))(hL:L.length<1000000):d8 Tryz.prog 198 [.pointer (some ⟨t,0,none⟩),.int .i64 n] h fun v h'=>v= .int .i64 (K5 (Z6 n) L 0)∧St h0 h' (H2 t L::l):=by
 obtain⟨s,S⟩:=St.tim.1 S
 obtain⟨A,c,rfl⟩:=S.timO
 refine EN i198.eq_1 fun K hK=>Wa ?_
 (revert S;(try clear F);refine AL fun q h S F=> ?_)
 refine Wb F ?_
 refine cI (U0 i226.2 (S.p2.offArr s9) rfl (by omega) (c4i S.blk)) ?_
 rintro v h' ⟨rfl,hf⟩
 refine Wa ?_
 exact hK _ _ ⟨rfl,St.tim.2 ⟨_,(S.frame hf).tl⟩⟩
theorem b5S(S:St h0 h (H2 t L::l))(hL:L.length<1000000):d8 Tryz.prog 55 [.pointer (some ⟨t,0,none⟩)] h fun v h'=>∃t',v= .pointer (some ⟨t',0,none⟩)∧St h0 h' (H2 t' L::H2 t L::l):=by
 obtain⟨s,S⟩:=St.tim.1 S
 obtain⟨A,c,rfl⟩:=S.timO
 ((try clear F);have F:=S.fx)
 refine EN i55.eq_1 fun K hK=> ?_
 refine Wb F ?_
 refine cI (Q0 (T:=138) (sz:=2) (bytes:=16) i109.2 s9 (by omega) H5 rfl (S.p1.offArr s9) rfl ?_ (by omega) (by omega)) ?_
 ·rintro rfl
  rcases S.p1.off with⟨_,h1⟩|⟨b,cap,pre,cs,post,h1,_⟩
  ·exact h1
  ·cases h1
 rintro v h' ⟨ho,hf,_⟩
 refine Wa ?_
 have S:=(S.ownNew hf ho).toOff
 obtain⟨A',c',rfl⟩:=S.offSl
 refine Wa ?_
 (revert S;(try clear F);refine AL fun u h S F=> ?_)
 refine Wa ?_
 exact hK _ _ ⟨u,rfl,St.tim.2 ⟨_,(St.tim.2 ⟨_,S.p3.p3⟩).p2.p2⟩⟩
end
end
section
set_option maxHeartbeats 4000000
theorem c2g{p:Tm→Bool}{L:List Tm}(hp:∀x∈L,p x=false):L.find? p=none:=List.find?_eq_none.2 fun x hx=>by simp[hp x hx]
theorem b4Q{p:Tm→Bool}:∀{L:List Tm}{i:Nat} (hi:i<L.length),(∀x∈L.take i,p x=false)→p L[i]=true→L.find? p=some L[i]
 | [],i,hi,_,_=>by simp at hi
 |x::L,0,hi,_,h=>by simpa using by simp[List.find?_cons,show p x=true from h]
 |x::L,i+1,hi,h1,h2=>by
  rw[List.find?_cons,show p x=false from h1 x (by simp)]
  exact b4Q (by simpa using hi) (fun y hy=>h1 y (by simp[hy])) h2
theorem b4q{n:Int}{L:List Tm}(hp:∀x∈L,Z6 n x=false):without L n=L:=List.filter_eq_self.2 fun x hx=>by simp[hp x hx]
theorem b4p{n:Int}{L:List Tm}{i:Nat}(hi:i<L.length)(h1:∀x∈L.take i,Z6 n x=false)(h2:Z6 n L[i]=true)(hg:L.Pairwise (fun a b=>a.num≠b.num)):without L n=L.take i++L.drop (i+1):=by
 have hd:∀x∈L.drop (i+1),Z6 n x=false:=by
  intro x hx
  obtain⟨k,hk,rfl⟩:=List.mem_iff_getElem.1 hx
  rw[M2]at hk
  rw[List.getElem_drop]
  have:=List.pairwise_iff_getElem.1 hg i (i+1+k) hi (by omega) (by omega)
  simp only[Z6,decide_eq_true_eq]at h2
  simp only[Z6,decide_eq_false_iff_not]
  rw[←h2]
  exact fun e=>this e.symm
 unfold without
 conv=>lhs;rw[←G0 i L,X8 hi,List.filter_append,List.filter_cons]
 rw[if_neg (by simp[h2])]
 congr 1
 ·exact List.filter_eq_self.2 fun x hx=>by simp[h1 x hx]
 ·exact List.filter_eq_self.2 fun x hx=>by simp[hd x hx]
def b3x(L:List Tm)(x:Tm):List Tm:=L.take (a8y L x)++x::L.drop (a8y L x)
def setT(L:List Tm)(n d:Int):List Tm:=b3x (without L n) ⟨d,n⟩
def O8(L:List Tm)(d:Int):List Tm:=L.takeWhile fun x=>decide (x.day≤d)
def O1(L:List Tm)(d:Int):List Tm:=L.dropWhile fun x=>decide (x.day≤d)
def slN:Value→Nat
 | .slice _ n _=>n
 |_=>0
def a8v(x:Int):List Value:=[.int .i64 x]
theorem b1J(x:Int):(a8v x).length=1:=rfl
theorem b3v(x:Int):pC (a8v x)=true:=rfl
section
variable{h0 h:c9}{l:List HP}{t:Nat}{L:List Tm}
theorem St.timO'{s v:Value}{L':List Tm}(S:St h0 h (d9 t [s] 106::a6n tmE 2 138 v L'::l)):∃A c,v= .slice A L'.length c:=S.p1.offSl
theorem St.apart{b:Nat}{cs:List Value}{T T' sz:Nat}{α:Type}{enc:α→List Value}{v:Value}{xs:List α}(S:St h0 h (d9 b cs T::a6n enc sz T' v xs::l)):b∉i9 v:=by
 obtain⟨_,C,hp,_,D,hq,hd,_⟩:=S
 obtain⟨rfl,_⟩:=hp
 obtain⟨rfl,_⟩:=hq
 exact fun hm=>(hd b hm).2 (by simp)
theorem V4.keepPush{α:Type}{enc:α→List Value}{sz T:Nat}{v:Value}{xs:List α}{o:Obj}(ho:V4 enc sz T h v xs):V4 enc sz T (h.push o) v xs:=ho.keep fun b hb=>G2 (ho.lt b hb)
theorem a6O(n:Int)(S:St h0 h (H2 t L::l))(hL:L.length<1000000)(hg:a0n L):d8 Tryz.prog 142 [.pointer (some ⟨t,0,none⟩),.int .i64 n] h fun v h'=>v= .bool (L.find? (Z6 n)).isSome∧St h0 h' (H2 t (without L n)::l):=by
 refine EN i142.eq_1 fun K hK=>Wa ?_
 refine cI (c4V n S hL) ?_
 clear S
 rintro _ h ⟨rfl,S⟩
 rcases R6 (Z6 n) L 0 with⟨h1,h2⟩|⟨i,h1,hi,h3,h4⟩
 ·simp only[Int.natCast_zero]at h1
  rw[h1]
  refine Wa ?_
  exact hK _ _ ⟨by rw[c2g h2];rfl,by rw[b4q h2];exact S⟩
 ·simp only[Nat.zero_add,Int.natCast_zero]at h1
  have hp:=h4 _ (l_r hi)
  have hf:=b4Q hi h3 hp
  obtain⟨s,S⟩:=St.tim.1 S
  obtain⟨A,c,rfl⟩:=S.timO
  ((try clear F);have F:=S.fx)
  rw[h1]
  refine Wb F ?_
  rw[show((i:Int)+1)=((i+1:Nat):Int) by omega]
  refine cI (b3j (T:=138) (sz:=2) (bytes:=16) i199.2 s9 (by omega) H5 rfl a9L S.p1.off (by omega) (by omega) (by omega)) ?_
  rintro v h' ⟨ho,hfr,hb⟩
  have S:=(S.p1.offUp hfr ho (fun b hm=> .inl (hb b hm))).p1
  obtain⟨A',c',rfl⟩:=S.timO'
  ((try clear F);have F:=S.fx)
  refine Wb F ?_
  (revert S;(try clear F);refine ST fun h S F=> ?_)
  refine Wa ?_
  rw[←b4p hi h3 hp hg.2]at S
  exact hK _ _ ⟨by rw[hf];rfl,St.tim.2 ⟨_,S⟩⟩
theorem b4t(n d:Int)(S:St h0 h (H2 t L::l))(hL:L.length<900000)(hg:a0n L):d8 Tryz.prog 137 [.pointer (some ⟨t,0,none⟩),.int .i64 n,.int .i64 d] h fun v h'=>St h0 h' (H2 t (setT L n d)::l):=by
 refine EN i137.eq_1 fun K hK=>Wa ?_
 refine cI (a6O n S (by omega) hg) ?_
 clear S
 rintro _ h ⟨rfl,S⟩
 refine Wa ?_
 (revert S;(try clear F);refine AL fun q h S F=> ?_)
 refine Wb F ?_
 (revert S;(try clear F);refine ST fun h S F=> ?_)
 refine Wb F ?_
 have hwl:(without L n).length≤L.length:=List.length_filter_le _ _
 have hso:(without L n).Pairwise n7:=hg.1.sublist List.filter_sublist
 generalize hW:without L n=W at S hwl hso
 obtain⟨s,S⟩:=St.tim.1 S.p1
 obtain⟨A,c,rfl⟩:=S.timO
 ((try clear F);have F:=S.fx)
 have hs1:=hso
 have rt:∀K u,j8 (fun h'=>St h0 h' _) (fun h'=>rd1 h' (.pointer (some ⟨t,0,none⟩))) K u=D7 (some (.slice A W.length c)) K ⟨⟩:=fun K u=>E7 S (fun h' s=>m8 s)
 have rq:∀K u,j8 (fun h'=>St h0 h' _) (fun h'=>i7 (rdN h' q 0 2) fun cs=>some (.agg cs.toArray)) K u=D7 (some (.agg (tmE ⟨d,n⟩).toArray)) K ⟨⟩:=fun K u=>E7 S (fun h' s=>by rw[M3 s.p2 (by simp)];rfl)
 refine Z8 S ?_
 refine Wc rt rq ?_
 refine cI (b6g (x:=⟨d,n⟩) S (fun h' s=>s.p1.offArr s9) hs1 (by omega)) ?_
 rintro _ h1 ⟨⟨fnd,rfl⟩,S1⟩
 refine Wa ?_
 try refine⟨S1,?_⟩
 refine Wa ?_
 clear rt rq
 refine a1G (i9 (.slice A W.length c)) ?_
 have r1:rd1 h1 (.pointer (some ⟨t,0,none⟩))=some (.slice A W.length c):=m8 S1
 have htm:t<h1.size:=F5 S1.blk
 have htv:t∉i9 (.slice A W.length c):=S1.apart
 have rq:∀K u,j8 (fun h'=>Fr h1 h' (i9 (.slice A W.length c))) (fun h'=>i7 (rdN h' q 0 2) fun cs=>some (.agg cs.toArray)) K u=D7 (some (.agg [Value.int .i64 d,.int .i64 n].toArray)) K ⟨⟩:=fun K u=>by
  rw[b5v (F5 S1.p2.blk) (S1.p2.d1).apart,M3 S1.p2 (by simp)];rfl
 refine We r1 rq @sC @sN ?_
 simp only[a5g,b5f]
 have S2:St h0 (h1.push (.cells [Value.int .i64 d,.int .i64 n].toArray 138 (0,0))) _:=S1.alloc
 have hf2:Fr h1 (h1.push (.cells [Value.int .i64 d,.int .i64 n].toArray 138 (0,0))) (i9 (.slice A W.length c)):=(Fr.refl _ _).push _
 refine Wd hf2 @sC @sN ?_
 have hpl:a8y W ⟨d,n⟩≤W.length:=List.IsPrefix.length_le (List.takeWhile_prefix _)
 refine cI (b5Z (x:=⟨d,n⟩) S1.p1.off.keepPush hpl (by omega) (C7 rfl) (fun hm=>by have:=S1.p1.off.lt _ hm;omega)) ?_
 rintro v h3 ⟨ho,hf3,hb⟩
 have S3:=(S2.p2.offUp hf3 ho hb).p2
 obtain⟨A',c',rfl⟩:=S3.timO'
 have hf4:=hf2.trans hf3
 refine Wb hf4 ?_
 refine tS S3 (by rfl) (by rfl) (l_a rfl) ?_
 intro h4 S4
 simp only[sC,sN,l_h]at S4
 refine Wa ?_
 refine hK _ _ ?_
 unfold setT b3x
 rw[hW]
 exact(St.tim.2 ⟨_,S4⟩).d1.d1
theorem c1m(d:Int)(S:St h0 h (H2 t L::l))(hL:L.length<1000000):d8 Tryz.prog 151 [.pointer (some ⟨t,0,none⟩),.int .i64 d] h fun v h'=>St h0 h' (i4 a8v 1 3 v ((O8 L d).map Tm.num)::H2 t (O1 L d)::l):=by
 have S0:St h0 h (i4 a8v 1 3 (.slice none 0 0) []::H2 t L::l):=S.nilS
 refine EN i151.eq_1 fun K hK=>Wa ?_
 refine lI (fun ρ h'=>ρ 0= .pointer (some ⟨t,0,none⟩)∧ρ 1= .int .i64 d∧∃v D M,ρ 5=v∧St h0 h' (i4 a8v 1 3 v D::H2 t M::l)∧M.length≤L.length∧D.length+M.length=L.length∧D++(O8 M d).map Tm.num=(O8 L d).map Tm.num∧O1 M d=O1 L d) (fun ρ _=>L.length-slN (ρ 5)) ?_ ?_
 ·refine Wa ?_
  exact⟨_,[],L,rfl,S0,by omega,by simp,rfl,rfl⟩
 ·clear S S0
  rintro ρ h J hJ ⟨e0,e1,v,D,M,e5,S,hML,hDM,hD,hM⟩
  obtain⟨Av,cv,rfl⟩:=S.sl
  obtain⟨s,S⟩:=St.tim.1 S.p1
  obtain⟨A,c,rfl⟩:=S.timO
  ((try clear F);have F:=S.fx)
  cases M with
  |nil=>
   simp only[l_g]at S F
   refine Wd e0 e1 F ?_
   refine hK _ _ ?_
   simp only[O8,O1,List.takeWhile_nil,List.dropWhile_nil,List.map_nil,D9]at hD hM
   refine Wb e5 ?_
   rw[O8,←hD,O1,←hM]
   exact(St.tim.2 ⟨_,S⟩).p1
  |cons x M=>
   obtain⟨b,off,rfl,hr⟩:=S.p1.offArr s9 0 (by simp)
   simp only[Nat.zero_mul,H8,List.getElem_cons_zero]at hr
   have hr0:rd1 h (.pointer (some ⟨b,off,none⟩))=some (.int .i64 x.day):=rP hr 0 (by omega)
   have hr1:rd1 h (.pointer (some ⟨b,off+1,none⟩))=some (.int .i64 x.num):=rP hr 1 (by omega)
   generalize hn:(x::M).length=n at S F hML hDM
   have hn1:n=M.length+1:=by rw[←hn];simp
   by_cases hx:x.day≤d
   ·refine Wh e0 e1 e5 F hr0 hr1 hx ?_
    (revert S;(try clear F);refine AL fun g h S F=> ?_)
    refine Wa ?_
    refine tA1 (bytes:=8) (x:=x.num) b1J (by omega) b3v rfl rfl S.p3.p1 (by omega) (by omega) ?_
    clear S
    intro v h S
    ((try clear F);have F:=S.fx)
    obtain⟨A',c',hcut,hoff,hblk⟩:=S.p2.off.pop s9
    refine Wd e0 F hcut ?_
    have S:=(S.p2.offUp (Fr.refl _ _) hoff (fun b hm=> .inl (by rw[←hblk];exact hm))).p2
    refine tS S (by rfl) (by rfl) (l_a rfl) ?_
    clear S
    intro h S
    simp only[sC,sN,l_h]at S
    refine Wa ?_
    have S:=(St.tim.2 ⟨_,S⟩).p1
    obtain⟨Av',cv',rfl⟩:=S.sl
    rw[O8,List.takeWhile_cons,if_pos (by simpa using hx)]at hD
    rw[O1,List.dropWhile_cons,if_pos (by simpa using hx)]at hM
    refine hJ _ _ ?_ ?_
    ·refine Wc e0 e1 ?_
     exact⟨_,_,M,rfl,S,by omega,by simp only[l_m,l_f,l_g];omega,by rw[←hD];simp[O8],hM⟩
    ·refine Wd e5 @slN.eq_1 @slN.eq_2 ?_
     simp only[l_m,l_f,l_g]
     omega
   ·refine Wh e0 e1 e5 F hr0 hr1 hx ?_
    refine hK _ _ ?_
    rw[O8,List.takeWhile_cons,if_neg (by simpa using hx)]at hD
    rw[O1,List.dropWhile_cons,if_neg (by simpa using hx)]at hM
    rw[←hD,←hM,List.map_nil,D9]
    subst hn
    exact(St.tim.2 ⟨_,S⟩).p1
end
end
section
set_option maxHeartbeats 4000000
theorem c3b{h0 h:c9}{l:List HP}{t:Nat}(S:St h0 h (d9 t [.slice none 0 0] 106::l)):St h0 h (H2 t []::l):=St.tim.2 ⟨_,S.nilO.p1⟩
theorem b8X:a0n []:=⟨.nil,.nil⟩
end
section
set_option maxHeartbeats 8000000
structure Ret where
 num:Int
 ord:Int
 rea:Int
 want:Int
 res:Int
 cred:Bool
 state:Int
 day:Int
 us:List Int
 gs:List Int
 worth:Int
 paid:Int
 credd:Int
 given:Int
structure i0 where
 r:Ret
 A:Option Addr
 c:Nat
 B:Option Addr
 d:Nat
def i0.enc(x:i0):List Value:=[.int .i64 x.r.num,.int .i64 x.r.ord,.int .i64 x.r.rea,.int .i64 x.r.want,.int .i64 x.r.res,.bool x.r.cred,.int .i64 x.r.state,.int .i64 x.r.day,.slice x.A x.r.us.length x.c,.slice x.B x.r.gs.length x.d,.int .i64 x.r.worth,.int .i64 x.r.paid,.int .i64 x.r.credd,.int .i64 x.r.given]
theorem i0.enc_len(x:i0):x.enc.length=14:=rfl
theorem i0.enc_plain(x:i0):pC x.enc=true:=rfl
def btw(n a b:Int):Prop:=a≤n∧n≤b
def a4e(us gs:List Int)(k:Nat):Prop:=btw (us.getD k 0) 0 199∧(0<k→us.getD (k-1) 0<us.getD k 0)∧btw (gs.getD k 0) (-1) 4
def Q6(us gs:List Int):Prop:=btw us.length 1 200∧gs.length=us.length∧∀k,k<us.length→a4e us gs k
theorem b2I{us gs:List Int}{i:Nat}(h:∀k,k<i→a4e us gs k)(hi:a4e us gs i):∀k,k<i+1→a4e us gs k:=fun k hk=>by
 by_cases e:k=i
 ·rw[e];exact hi
 ·exact h k (by omega)
theorem l7{us:List Int}{i:Nat}(hi:i<us.length):us.getD i 0=us[i]:=by simp[l_s,hi]
def a0S(n:Int):Prop:=btw n 0 1125899906842624
def Ret.right(r:Ret):Prop:=btw r.num 1 100∧btw r.ord 0 19∧btw r.rea 0 3∧btw r.want 0 1000∧btw r.res (-1) 199∧btw r.state 1 9∧btw r.day 0 100000∧Q6 r.us r.gs∧a0S r.worth∧a0S r.paid∧a0S r.credd∧a0S r.given
theorem F0(n a b:Int)(h:c9):d8 Tryz.prog 118 [.int .i64 n,.int .i64 a,.int .i64 b] h fun v h'=>v= .bool (dcd (btw n a b))∧h'=h:=by
 by_cases h1:a≤n
 ·by_cases h2:n≤b
  ·refine EN i118.eq_1 fun K hK=> ?_
   refine Wc h1 h2 ?_
   exact hK _ _ ⟨by rw[dT ⟨h1,h2⟩],rfl⟩
  ·refine EN i118.eq_1 fun K hK=> ?_
   refine Wc h1 h2 ?_
   exact hK _ _ ⟨by rw[dF fun h=>h2 h.2],rfl⟩
 ·refine EN i118.eq_1 fun K hK=> ?_
  refine Wb h1 ?_
  exact hK _ _ ⟨by rw[dF fun h=>h1 h.1],rfl⟩
end
end Go.Proofs.YtjagmebglhbdkaaGreat.MX
