import Derived.Test.YtjagmebglhbdkaaGreatK31
namespace Go.Proofs.YtjagmebglhbdkaaGreat.MX
open Go Go.Proofs
set_option linter.unusedSimpArgs false
set_option linter.unusedVariables false
section
set_option maxHeartbeats 8000000
def ixI(xs:List Int)(v:Int):Int:=match xs.findIdx? fun u=>decide (u=v)with
 |some i=>(i:Int)
 |none=> -1
theorem b1L{xs:List Int}{v:Int}(h:v∉xs):xs.findIdx? (fun u=>decide (u=v))=none:=by
 rw[List.findIdx?_eq_none_iff]
 intro x hx
 have:x≠v:=fun e=>h (e▸hx)
 simp[this]
theorem b1M{xs:List Int}{v:Int}{i:Nat}(hi:i<xs.length)(h1:∀j,j<i→xs.getD j 0≠v)(h2:xs.getD i 0=v):xs.findIdx? (fun u=>decide (u=v))=some i:=by
 rw[a8w]
 refine⟨hi,by rw[←l7 hi,h2];simp,fun j hj=> ?_⟩
 have:=h1 j hj
 rw[l7 (by omega)]at this
 simp[this]
theorem b0X{h:c9}{A:Option Addr}{c:Nat}{xs:List Int}(v:Int)(ha:Arr i6 1 h A xs)(hl:xs.length<1000000):
  d8 Tryz.prog 172 [.slice A xs.length c,.int .i64 v] h fun r h'=>r= .int .i64 (ixI xs v)∧h'=h:=by
 refine EN i172.eq_1 fun K hK=>Wa ?_
 refine lI (fun ρ h'=>h'=h∧ρ 0= .slice A xs.length c∧ρ 1= .int .i64 v∧ρ 7= .int .i64 xs.length∧∃i:Nat,ρ 8= .int .i64 i∧i≤xs.length∧∀j,j<i→xs.getD j 0≠v) (fun ρ _=>xs.length-(iv (ρ 8)).toNat) ?_ ?_
 ·refine Wa ?_
  exact⟨0,rfl,by omega,fun j hj=>absurd hj (by omega)⟩
 rintro ρ h' J hJ ⟨rfl,e0,e1,e7,i,e8,hi,hn⟩
 refine Wc e7 e8 ?_
 refine cD (fun hlt=> ?_) (fun hlt=> ?_)
 ·have hil:i<xs.length:=by omega
  obtain⟨b1,o1,hA,q1⟩:=ha.at hil
  have q1:=rP0 q1 (by omega)
  simp only[i6,l_o,m9]at q1
  rw[←l7]at q1
  by_cases hv:v=xs.getD i 0
  ·(try simp(disch:=first|omega|assumption|exact l_a rfl) only[go_sem,↓wBk,simprocAttr,e0,e1,e8,hA,q1,m9,←hv])
   refine hK _ _ ⟨?_,rfl⟩
   rw[ixI,b1M hil hn hv.symm]
  ·refine Wg e0 e1 e8 hA q1 @m9 ?_
   refine hJ _ _ ?_ ?_
   ·refine We e0 e1 e7 hA ?_
    refine⟨i+1,rfl,by omega,fun j hj=> ?_⟩
    by_cases e:j=i
    ·rw[e];exact fun h=>hv h.symm
    ·exact hn j (by omega)
   ·refine Wb e8 ?_
    omega
 obtain rfl:i=xs.length:=by omega
 refine Wa ?_
 refine hK _ _ ⟨?_,rfl⟩
 rw[ixI,b1L]
 intro hm
 obtain⟨j,hj,rfl⟩:=R7 hm
 exact hn j hj (l7 hj)
theorem c2n(xs:List Int)(v:Int):0≤ixI xs v↔v∈xs:=by
 unfold ixI
 cases h:xs.findIdx? (fun u=>decide (u=v))with
 |none=>
  rw[List.findIdx?_eq_none_iff]at h
  constructor
  ·intro h';exact absurd h' (by decide)
  ·intro hm;have:=h v hm;simp at this
 |some i=>
  rw[a8w]at h
  obtain⟨hi,h1,_⟩:=h
  constructor
  ·intro _
   have:xs[i]=v:=by simpa using h1
   exact this▸l_v hi
  ·intro _;exact Int.natCast_nonneg _
theorem a4g{h:c9}{A:Option Addr}{c:Nat}{xs:List Int}(v:Int)(ha:Arr i6 1 h A xs)(hl:xs.length<1000000):
  d8 Tryz.prog 203 [.slice A xs.length c,.int .i64 v] h fun r h'=>r= .bool (dcd (v∈xs))∧h'=h:=by
 refine EN i203.eq_1 fun K hK=>Wa ?_
 refine cI (b0X v ha hl) ?_
 rintro _ _ ⟨rfl,rfl⟩
 have hm:=c2n xs v
 by_cases hv:v∈xs
 ·have h0:=hm.2 hv
  refine Wa ?_
  exact hK _ _ ⟨by rw[dT hv],rfl⟩
 ·have h0:¬0≤ixI xs v:=fun h=>hv (hm.1 h)
  refine Wa ?_
  exact hK _ _ ⟨by rw[dF hv],rfl⟩
theorem c3m(a:Int){h0 h:c9}{l:List HP}(S:St h0 h l):d8 Tryz.prog 228 [.int .i64 a] h fun v h'=>∃A c xs,v= .slice A xs.length c∧xs.length<10∧(∀b,b∈xs↔J4 a b)∧St h0 h' (i4 i6 1 3 v xs::l):=by
 have z2:∀z:Value,n8 [z] 2=[z,z]:=fun _=>rfl
 by_cases a0:a=0
 ·subst a0
  refine EN i228.eq_1 fun K hK=>Wa ?_
  (revert S;(try clear F);refine AL fun q h S F=> ?_)
  have S:=S.cellOwn (enc:=i6) (sz:=1) (ys:=[1]) zEl rfl (by decide)
  refine Wa ?_
  exact hK _ _ ⟨_,_,[1],rfl,by decide,fun b=>by simp[J4],S⟩
 by_cases a1:a=1
 ·subst a1
  refine EN i228.eq_1 fun K hK=> ?_
  refine Wb z2 ?_
  (revert S;(try clear F);refine AL fun q h S F=> ?_)
  have S:=S.cellOwn (enc:=i6) (sz:=1) (ys:=[2,6]) zEl rfl (by decide)
  refine Wa ?_
  exact hK _ _ ⟨_,_,[2,6],rfl,by decide,fun b=>by simp[J4],S⟩
 have z4:∀z:Value,n8 [z] 4=[z,z,z,z]:=fun _=>rfl
 by_cases a2:a=2
 ·subst a2
  refine EN i228.eq_1 fun K hK=> ?_
  refine Wb z4 ?_
  (revert S;(try clear F);refine AL fun q h S F=> ?_)
  have S:=S.cellOwn (enc:=i6) (sz:=1) (ys:=[3,4,5,8]) zEl rfl (by decide)
  refine Wa ?_
  exact hK _ _ ⟨_,_,[3,4,5,8],rfl,by decide,fun b=>by simp[J4],S⟩
 by_cases a3:a=3
 ·subst a3
  refine EN i228.eq_1 fun K hK=>Wa ?_
  (revert S;(try clear F);refine AL fun q h S F=> ?_)
  have S:=S.cellOwn (enc:=i6) (sz:=1) (ys:=[7]) zEl rfl (by decide)
  refine Wa ?_
  exact hK _ _ ⟨_,_,[7],rfl,by decide,fun b=>by simp[J4],S⟩
 by_cases a7:a=7
 ·subst a7
  refine EN i228.eq_1 fun K hK=> ?_
  refine Wb z2 ?_
  (revert S;(try clear F);refine AL fun q h S F=> ?_)
  have S:=S.cellOwn (enc:=i6) (sz:=1) (ys:=[3,8]) zEl rfl (by decide)
  refine Wa ?_
  exact hK _ _ ⟨_,_,[3,8],rfl,by decide,fun b=>by simp[J4],S⟩
 by_cases a8:a=8
 ·subst a8
  refine EN i228.eq_1 fun K hK=> ?_
  refine Wb z2 ?_
  (revert S;(try clear F);refine AL fun q h S F=> ?_)
  have S:=S.cellOwn (enc:=i6) (sz:=1) (ys:=[0,6]) zEl rfl (by decide)
  refine Wa ?_
  exact hK _ _ ⟨_,_,[0,6],rfl,by decide,fun b=>by simp[J4],S⟩
 refine EN i228.eq_1 fun K hK=> ?_
 refine Wa ?_
 exact hK _ _ ⟨none,0,[],rfl,by decide,fun b=>by simp[J4,a0,a1,a2,a3,a7,a8],S.nilS⟩
theorem b7Q(a b:Int)(h:c9):d8 Tryz.prog 202 [.int .i64 a,.int .i64 b] h fun v h'=>v= .bool (dcd (J4 a b))∧Fr h h' []:=by
 have S:=St.nil h
 refine EN i202.eq_1 fun K hK=>Wa ?_
 refine cI (c3m a S) ?_
 clear S
 rintro _ h ⟨A,c,xs,rfl,hl,hm,S⟩
 refine Wa ?_
 refine cI (a4g b (S.arr zEl) (by omega)) ?_
 rintro _ _ ⟨rfl,rfl⟩
 refine Wa ?_
 refine hK _ _ ⟨?_,S.fr⟩
 by_cases hb:J4 a b
 ·rw[dT hb,dT ((hm b).2 hb)]
 ·rw[dF hb,dF fun h=>hb ((hm b).1 h)]
section
variable{h0 h:c9}{l:List HP}{k:Nat}{Ks:List KU}
theorem a0L(n to:Int)(S:St h0 h (t6 k Ks::l))(hl:Ks.length<1000000):d8 Tryz.prog 148 [.pointer (some ⟨k,0,none⟩),.int .i64 n,.int .i64 to] h fun v h'=>v= .int .i64 (H9 Ks n to)∧St h0 h' (t6 k (E3 Ks n to)::l):=by
 by_cases h1:0≤n∧n<Ks.length
 case neg=>
  have e:H9 Ks n to=7:=if_neg h1
  have e2:E3 Ks n to=Ks:=by rw[E3,e];rfl
  rw[e,e2]
  refine EN i148.eq_1 fun K hK=>Wa ?_
  refine cI (a3R _ S) ?_
  rintro _ _ ⟨rfl,rfl⟩
  rw[dF h1]
  refine Wa ?_
  exact hK _ _ ⟨rfl,S⟩
 obtain⟨i,rfl⟩:=l_u h1.1
 have hi:i<Ks.length:=by omega
 have hpl:i5 Ks (i:Int)=Ks[i].place:=by
  rw[i5,if_pos h1.1,K0,l_r hi];rfl
 have hgd:Ks.getD i KU0=Ks[i]:=by rw[l_s,l_r hi];rfl
 by_cases h2:J4 Ks[i].place to
 case neg=>
  have e:H9 Ks i to=8:=by rw[H9,if_pos h1,hpl,if_neg h2]
  have e2:E3 Ks i to=Ks:=by rw[E3,e];rfl
  rw[e,e2]
  refine EN i148.eq_1 fun K hK=>Wa ?_
  refine cI (a3R _ S) ?_
  rintro _ _ ⟨rfl,rfl⟩
  rw[dT h1]
  obtain⟨s,S⟩:=St.stk.1 S
  obtain⟨A,c,rfl⟩:=S.p1.sl
  obtain⟨b,rfl⟩:=S.p1.ownAt (by omega)
  have hp:=u2 KU.enc_len S.p1 (i:=i) (j:=0) hi (by omega)
  simp only[KU.enc,l_o,H8]at hp
  ((try clear F);have F:=S.fx)
  refine Wc F hp ?_
  refine cI (b7Q _ _ _) ?_
  rintro _ h ⟨rfl,f1⟩
  rw[dF h2]
  refine Wa ?_
  exact hK _ _ ⟨rfl,St.stk.2 ⟨_,S.frame f1⟩⟩
 have e:H9 Ks i to=0:=by rw[H9,if_pos h1,hpl,if_pos h2]
 have e2:E3 Ks i to=Ks.set i (a5x Ks[i] to):=by rw[E3,if_pos e,K0,hgd]
 rw[e,e2]
 refine EN i148.eq_1 fun K hK=>Wa ?_
 refine cI (a3R _ S) ?_
 rintro _ _ ⟨rfl,rfl⟩
 rw[dT h1]
 obtain⟨s,S⟩:=St.stk.1 S
 obtain⟨A,c,rfl⟩:=S.p1.sl
 obtain⟨b,rfl⟩:=S.p1.ownAt (by omega)
 rcases hx:Ks[i]with⟨pl,sk,rv,gr⟩
 rw[hx]at h2
 have rdK:∀{h':c9}{M:List HP}{K':List KU} (hK':i<K'.length) {y:KU},K'[i]=y→St h0 h' (i4 KU.enc 4 166 (.slice (some ⟨b,0,none⟩) Ks.length c) K'::M)→rd1 h' (.pointer (some ⟨b,i*4,none⟩))=some (.int .i64 y.place)∧rd1 h' (.pointer (some ⟨b,i*4+2,none⟩))=some (.bool y.recv)∧rd1 h' (.pointer (some ⟨b,i*4+3,none⟩))=some (.bool y.grad):=fun {h' M K'} hK' {y} hy S=>by
  have hp:=u2 KU.enc_len S (i:=i) (j:=0) hK' (by omega)
  have hq:=u2 KU.enc_len S (i:=i) (j:=2) hK' (by omega)
  have hr:=u2 KU.enc_len S (i:=i) (j:=3) hK' (by omega)
  simp only[KU.enc,l_o,l_p,H8,hy]at hp hq hr
  exact⟨hp,hq,hr⟩
 have R0:=rdK hi hx S.p1
 ((try clear F);have F:=S.fx)
 refine Wc F @R0.1 ?_
 refine cI (b7Q _ _ _) ?_
 rintro _ h ⟨rfl,f1⟩
 have S:=S.frame f1
 clear f1 R0
 rw[dT h2]
 have hm:a5x ⟨pl,sk,rv,gr⟩ to=⟨to,sk,rv||decide (to=2),gr||decide (pl=2)⟩:=rfl
 have S:St h0 h (i4 KU.enc 4 166 (.slice (some ⟨b,0,none⟩) Ks.length c) Ks::d9 k [.slice (some ⟨b,0,none⟩) Ks.length c] 164::l):=S.p1
 have R1:=rdK hi hx S
 have fin:∀(rv' gr':Bool),rv'=(rv||decide (to=2))→gr'=(gr||decide (pl=2))→(((Ks.set i ⟨pl,sk,rv',gr⟩).set i ⟨pl,sk,rv',gr'⟩).set i ⟨to,sk,rv',gr'⟩)=Ks.set i (a5x ⟨pl,sk,rv,gr⟩ to):=fun rv' gr' h1 h2=>by
  rw[hm,h1,h2,List.set_set,List.set_set]
 obtain⟨rv',hrv⟩:∃rv',rv'=(rv||decide (to=2)):=⟨_,rfl⟩
 obtain⟨gr',hgr⟩:∃gr',gr'=(gr||decide (pl=2)):=⟨_,rfl⟩
 have go:∀{v:Value}{Q:Value→c9→Prop}{s:Tag h}{t:Tag Q},v= .bool rv'→(∀h',St h0 h' (i4 KU.enc 4 166 (.slice (some ⟨b,0,none⟩) Ks.length c) (Ks.set i ⟨pl,sk,rv',gr⟩)::d9 k [.slice (some ⟨b,0,none⟩) Ks.length c] 164::l)→Q undef h')→P8 1 (.pointer (some ⟨b,i*4+2,none⟩)) [v] h Q s t:=fun {v Q s t} hv hk=>by
  subst hv
  exact G8 KU.enc_len (i:=i) (j:=2) (x:=⟨pl,sk,rv',gr⟩) S hi rfl (by simp) rfl rfl (by rw[hx];rfl) hk
 have go2:∀{h:c9}{v:Value}{Q:Value→c9→Prop}{s:Tag h}{t:Tag Q},St h0 h (i4 KU.enc 4 166 (.slice (some ⟨b,0,none⟩) Ks.length c) (Ks.set i ⟨pl,sk,rv',gr⟩)::d9 k [.slice (some ⟨b,0,none⟩) Ks.length c] 164::l)→v= .bool gr'→(∀h',St h0 h' (i4 KU.enc 4 166 (.slice (some ⟨b,0,none⟩) Ks.length c) ((Ks.set i ⟨pl,sk,rv',gr⟩).set i ⟨pl,sk,rv',gr'⟩)::d9 k [.slice (some ⟨b,0,none⟩) Ks.length c] 164::l)→Q undef h')→P8 1 (.pointer (some ⟨b,i*4+3,none⟩)) [v] h Q s t:=fun {h v Q s t} S hv hk=>by
  subst hv
  exact G8 KU.enc_len (i:=i) (j:=3) (x:=⟨pl,sk,rv',gr'⟩) S (by rw[T3];exact hi) rfl (by simp) rfl rfl (by simp only[List.getElem_set_self];rfl) hk
 have tail:∀{h:c9}{Q:Value→c9→Prop}{s:Tag h}{t:Tag Q},St h0 h (i4 KU.enc 4 166 (.slice (some ⟨b,0,none⟩) Ks.length c) ((Ks.set i ⟨pl,sk,rv',gr⟩).set i ⟨pl,sk,rv',gr'⟩)::d9 k [.slice (some ⟨b,0,none⟩) Ks.length c] 164::l)→(∀h',St h0 h' (t6 k (Ks.set i (a5x ⟨pl,sk,rv,gr⟩ to))::l)→Q undef h')→P8 1 (.pointer (some ⟨b,i*4,none⟩)) [.int .i64 to] h Q s t:=fun {h Q s t} S hk=>by
  refine G8 KU.enc_len (i:=i) (j:=0) (x:=⟨to,sk,rv',gr'⟩) S (by rw[T3,T3];exact hi) rfl (by simp) rfl rfl (by simp only[List.getElem_set_self];rfl) ?_
  intro h' S'
  rw[fin rv' gr' hrv hgr]at S'
  exact hk _ (St.stk.2 ⟨_,S'.p1⟩)
 clear fin S
 have c1:(rv=true)∨(rv=false∧to=2)∨(rv=false∧¬to=2):=by
  cases rv
  ·by_cases h:to=2
   ·exact .inr (.inl ⟨rfl,h⟩)
   ·exact .inr (.inr ⟨rfl,h⟩)
  ·exact .inl rfl
 have c2:(gr=true)∨(gr=false∧pl=2)∨(gr=false∧¬pl=2):=by
  cases gr
  ·by_cases h:pl=2
   ·exact .inr (.inl ⟨rfl,h⟩)
   ·exact .inr (.inr ⟨rfl,h⟩)
  ·exact .inl rfl
 obtain⟨_,R2,R3⟩:=R1
 rcases c1 with c1|⟨c1,d1⟩|⟨c1,d1⟩<;>(
  rw[c1]at R2
  refine Wb R2 ?_
  refine go (by rw[hrv,c1];simp_all) ?_
  clear R2 R3 go
  intro h S
  obtain⟨R1,_,R3⟩:=rdK (K':=Ks.set i ⟨pl,sk,rv',gr⟩) (y:=⟨pl,sk,rv',gr⟩) (by rw[T3];exact hi) (by simp) S
  rcases c2 with c2|⟨c2,d2⟩|⟨c2,d2⟩<;>(
   simp only at R1 R3
   rw[c2]at R3
   refine Wc R1 R3 ?_
   refine go2 S (by rw[hgr,c2];simp_all) ?_
   clear S R1 R3
   intro h S
   refine Wa ?_
   refine tail S ?_
   intro h S
   refine Wa ?_
   exact hK _ _ ⟨rfl,by rw[hx];exact S⟩))
end
end
section
set_option maxHeartbeats 8000000
def a9q(st by_:Int):Value:=match E4 st by_ with
 |some x=> .tuple #[.int .i64 x,.int .i64 0]
 |none=> .tuple #[.int .i64 0,.int .i64 8]
theorem a6r(st by_:Int)(h:c9):d8 Tryz.prog 140 [.int .i64 st,.int .i64 by_] h fun v h'=>v=a9q st by_∧h'=h:=by
 have hs:st=1∨st=2∨st=3∨st=4∨st=5∨(¬st=1∧¬st=2∧¬st=3∧¬st=4∧¬st=5):=by omega
 have hb:by_=1∨by_=2∨by_=3∨by_=4∨by_=5∨by_=6∨by_=7∨by_=8∨by_=9∨(¬by_=1∧¬by_=2∧¬by_=3∧¬by_=4∧¬by_=5∧¬by_=6∧¬by_=7∧¬by_=8∧¬by_=9):=by omega
 rcases hs with rfl|rfl|rfl|rfl|rfl|⟨s1,s2,s3,s4,s5⟩<;>rcases hb with rfl|rfl|rfl|rfl|rfl|rfl|rfl|rfl|rfl|⟨b1,b2,b3,b4,b5,b6,b7,b8,b9⟩<;>
 ((refine eK i140.2 (l_a rfl) fun K hK=> ?_;(try simp(disch:=first|omega|assumption|exact l_a rfl) only[go_sem,↓wBk,simprocAttr,i140]));(try simp(disch:=first|omega|assumption|exact l_a rfl) only[go_sem,↓wBk,simprocAttr]);exact hK _ _ ⟨by first|rfl|simp[a9q,E4, *],rfl⟩)
theorem a1e(a:Int)(h:c9):d8 Tryz.prog 240 [.int .i64 a] h fun v h'=>v= .bool (dcd (okC a))∧h'=h:=by
 by_cases h1: -1125899906842624≤a
 ·by_cases h2:a≤1125899906842624
  ·refine EN i240.eq_1 fun K hK=> ?_
   refine Wc h1 h2 ?_
   exact hK _ _ ⟨by rw[dT ⟨h1,h2⟩],rfl⟩
  ·refine EN i240.eq_1 fun K hK=> ?_
   refine Wc h1 h2 ?_
   exact hK _ _ ⟨by rw[dF fun h=>h2 h.2],rfl⟩
 ·refine EN i240.eq_1 fun K hK=> ?_
  refine Wb h1 ?_
  exact hK _ _ ⟨by rw[dF fun h=>h1 h.1],rfl⟩
def a8e(a:Int):Value:=if okC a then .tuple #[.int .i64 a,.int .i64 0]else .tuple #[.int .i64 0,.int .i64 9]
theorem b2H(a:Int)(h:c9):d8 Tryz.prog 241 [.int .i64 a] h fun v h'=>v=a8e a∧h'=h:=by
 refine EN i241.eq_1 fun K hK=>Wa ?_
 refine cI (a1e a _) ?_
 rintro _ _ ⟨rfl,rfl⟩
 by_cases h1:okC a
 ·rw[dT h1]
  refine Wa ?_
  exact hK _ _ ⟨by rw[a8e,if_pos h1],rfl⟩
 ·rw[dF h1]
  refine Wa ?_
  exact hK _ _ ⟨by rw[a8e,if_neg h1],rfl⟩
def a0K(a b c:Int):Value:=if okC a∧okC b∧okC c then .tuple #[.int .i64 c,.int .i64 0]else .tuple #[.int .i64 0,.int .i64 9]
theorem a9N(a b:Int)(h:c9):d8 Tryz.prog 237 [.int .i64 a,.int .i64 b] h fun v h'=>v=a0K a b (a+b)∧h'=h:=by
 refine EN i237.eq_1 fun K hK=>Wa ?_
 refine cI (a1e a _) ?_
 rintro _ _ ⟨rfl,rfl⟩
 by_cases h1:okC a
 case neg=>
  rw[dF h1]
  refine Wa ?_
  exact hK _ _ ⟨by rw[a0K,if_neg fun h=>h1 h.1],rfl⟩
 rw[dT h1]
 refine Wa ?_
 refine cI (a1e b _) ?_
 rintro _ _ ⟨rfl,rfl⟩
 by_cases h2:okC b
 case neg=>
  rw[dF h2]
  refine Wa ?_
  exact hK _ _ ⟨by rw[a0K,if_neg fun h=>h2 h.2.1],rfl⟩
 rw[dT h2]
 obtain⟨_,_⟩:=id h1
 obtain⟨_,_⟩:=id h2
 refine Wa ?_
 refine cI (b2H _ _) ?_
 rintro _ _ ⟨rfl,rfl⟩
 by_cases h3:okC (a+b)
 ·rw[a8e,if_pos h3]
  refine Wa ?_
  exact hK _ _ ⟨by rw[a0K,if_pos ⟨h1,h2,h3⟩],rfl⟩
 ·rw[a8e,if_neg h3]
  refine Wa ?_
  exact hK _ _ ⟨by rw[a0K,if_neg fun h=>h3 h.2.2],rfl⟩
theorem a9O(a b:Int)(h:c9):d8 Tryz.prog 236 [.int .i64 a,.int .i64 b] h fun v h'=>v=a0K a b (a-b)∧h'=h:=by
 refine EN i236.eq_1 fun K hK=>Wa ?_
 refine cI (a1e a _) ?_
 rintro _ _ ⟨rfl,rfl⟩
 by_cases h1:okC a
 case neg=>
  rw[dF h1]
  refine Wa ?_
  exact hK _ _ ⟨by rw[a0K,if_neg fun h=>h1 h.1],rfl⟩
 rw[dT h1]
 refine Wa ?_
 refine cI (a1e b _) ?_
 rintro _ _ ⟨rfl,rfl⟩
 by_cases h2:okC b
 case neg=>
  rw[dF h2]
  refine Wa ?_
  exact hK _ _ ⟨by rw[a0K,if_neg fun h=>h2 h.2.1],rfl⟩
 rw[dT h2]
 obtain⟨_,_⟩:=id h1
 obtain⟨_,_⟩:=id h2
 refine Wa ?_
 refine cI (b2H _ _) ?_
 rintro _ _ ⟨rfl,rfl⟩
 by_cases h3:okC (a-b)
 ·rw[a8e,if_pos h3]
  refine Wa ?_
  exact hK _ _ ⟨by rw[a0K,if_pos ⟨h1,h2,h3⟩],rfl⟩
 ·rw[a8e,if_neg h3]
  refine Wa ?_
  exact hK _ _ ⟨by rw[a0K,if_neg fun h=>h3 h.2.2],rfl⟩
theorem a2D(n:Int)(h:c9)(hn:0≤n∧n<5):d8 Tryz.prog 235 [.int .i64 n] h fun v h'=>v= .bool true∧h'=h:=by
 obtain⟨h1,h2⟩:=hn
 refine EN i235.eq_1 fun K hK=> ?_
 refine Wa ?_
 exact hK _ _ ⟨rfl,rfl⟩
def Led.enc(x:Led):List Value:=[.int .i64 x.a,.int .i64 x.b,.int .i64 x.c,.int .i64 x.d,.int .i64 x.e]
def Led.zero:Led:=⟨0,0,0,0,0⟩
def b2j(l:Led)(a b sum:Int):Value:=match a1u l a b sum with
 | .ok l'=> .tuple #[.agg l'.enc.toArray,.int .i64 0]
 | .error e=> .tuple #[.agg Led.zero.enc.toArray,.int .i64 e]
theorem c1u(x:Led)(a b sum:Int)(hab:a=0∧b=1∨a=1∧b=2∨a=1∧b=3∨a=1∧b=4)(h:c9):d8 Tryz.prog 229 [.agg x.enc.toArray,.int .i64 a,.int .i64 b,.int .i64 sum] h fun v h'=>v=b2j x a b sum∧Fr h h' []:=by
 have hdef:a1u x a b sum=if sum<0 then .error 1 else if okC (x.get a)∧okC (x.get b)∧okC sum∧okC (x.get a-sum)∧okC (x.get b+sum)then .ok ((x.put a (x.get a-sum)).put b (x.get b+sum))else .error 9:=rfl
 have S:=St.nil h
 by_cases hs:sum<0
 ·rw[if_pos hs]at hdef
  rw[b2j,hdef]
  rcases hab with⟨rfl,rfl⟩|⟨rfl,rfl⟩|⟨rfl,rfl⟩|⟨rfl,rfl⟩<;>(
   refine EN i229.eq_1 fun K hK=>Wa ?_
   (revert S;(try clear F);refine AL fun q h S F=> ?_)
   refine Wb @Led.enc.eq_1 ?_
   (revert S;(try clear F);refine AL fun g h S F=> ?_)
   refine Wa ?_
   refine cI (a2D _ _ ⟨by decide,by decide⟩) ?_
   rintro _ _ ⟨rfl,rfl⟩
   refine Wa ?_
   refine cI (a2D _ _ ⟨by decide,by decide⟩) ?_
   rintro _ _ ⟨rfl,rfl⟩
   refine Wa ?_
   (revert S;(try clear F);refine ST fun h S F=> ?_)
   refine Wb F ?_
   exact hK _ _ ⟨rfl,S.fr⟩)
 rw[if_neg hs]at hdef
 by_cases hc:okC (x.get a)∧okC (x.get b)∧okC sum∧okC (x.get a-sum)∧okC (x.get b+sum)
 ·rw[if_pos hc]at hdef
  rw[b2j,hdef]
  obtain⟨c1,c2,c3,c4,c5⟩:=hc
  have v1:a0K (x.get a) sum (x.get a-sum)= .tuple #[.int .i64 (x.get a-sum),.int .i64 0]:=by rw[a0K,if_pos ⟨c1,c3,c4⟩]
  have v2:a0K (x.get b) sum (x.get b+sum)= .tuple #[.int .i64 (x.get b+sum),.int .i64 0]:=by rw[a0K,if_pos ⟨c2,c3,c5⟩]
  rcases hab with⟨rfl,rfl⟩|⟨rfl,rfl⟩|⟨rfl,rfl⟩|⟨rfl,rfl⟩<;>(
   refine EN i229.eq_1 fun K hK=>Wa ?_
   (revert S;(try clear F);refine AL fun q h S F=> ?_)
   refine Wb @Led.enc.eq_1 ?_
   (revert S;(try clear F);refine AL fun g h S F=> ?_)
   refine Wa ?_
   refine cI (a2D _ _ ⟨by decide,by decide⟩) ?_
   rintro _ _ ⟨rfl,rfl⟩
   refine Wa ?_
   refine cI (a2D _ _ ⟨by decide,by decide⟩) ?_
   rintro _ _ ⟨rfl,rfl⟩
   refine Wc F @Led.enc.eq_1 ?_
   refine cI (a9O _ _ _) ?_
   rintro _ _ ⟨e1,rfl⟩
   rw[e1.trans v1]
   refine Wc F @Led.enc.eq_1 ?_
   refine cI (a9N _ _ _) ?_
   rintro _ _ ⟨e2,rfl⟩
   rw[e2.trans v2]
   refine Wa ?_
   refine tS S.p1 rfl rfl (l_a rfl) ?_
   clear S F
   intro h S
   rw[Led.enc]at S
   replace S:=S.nm
   refine Wa ?_
   refine tS S rfl rfl (l_a rfl) ?_
   clear S
   intro h S
   replace S:=S.nm
   ((try clear F);have F:=S.fx)
   refine Wb F ?_
   refine tS S.p1 rfl rfl (l_a rfl) ?_
   clear S F
   intro h S
   replace S:=S.nm
   ((try clear F);have F:=S.fx)
   refine Wb F ?_
   exact hK _ _ ⟨rfl,S.fr⟩)
 rw[if_neg hc]at hdef
 rw[b2j,hdef]
 by_cases d1:okC (x.get a)∧okC sum∧okC (x.get a-sum)
 ·have d2:¬(okC (x.get b)∧okC sum∧okC (x.get b+sum)):=fun h=>hc ⟨d1.1,h.1,d1.2.1,d1.2.2,h.2.2⟩
  have v1:a0K (x.get a) sum (x.get a-sum)= .tuple #[.int .i64 (x.get a-sum),.int .i64 0]:=by rw[a0K,if_pos d1]
  have v2:a0K (x.get b) sum (x.get b+sum)= .tuple #[.int .i64 0,.int .i64 9]:=by rw[a0K,if_neg d2]
  rcases hab with⟨rfl,rfl⟩|⟨rfl,rfl⟩|⟨rfl,rfl⟩|⟨rfl,rfl⟩<;>(
   refine EN i229.eq_1 fun K hK=>Wa ?_
   (revert S;(try clear F);refine AL fun q h S F=> ?_)
   refine Wb @Led.enc.eq_1 ?_
   (revert S;(try clear F);refine AL fun g h S F=> ?_)
   refine Wa ?_
   refine cI (a2D _ _ ⟨by decide,by decide⟩) ?_
   rintro _ _ ⟨rfl,rfl⟩
   refine Wa ?_
   refine cI (a2D _ _ ⟨by decide,by decide⟩) ?_
   rintro _ _ ⟨rfl,rfl⟩
   refine Wc F @Led.enc.eq_1 ?_
   refine cI (a9O _ _ _) ?_
   rintro _ _ ⟨e1,rfl⟩
   rw[e1.trans v1]
   refine Wc F @Led.enc.eq_1 ?_
   refine cI (a9N _ _ _) ?_
   rintro _ _ ⟨e2,rfl⟩
   rw[e2.trans v2]
   refine Wa ?_
   (revert S;(try clear F);refine ST fun h S F=> ?_)
   refine Wb F ?_
   exact hK _ _ ⟨rfl,S.fr⟩)
 ·have v1:a0K (x.get a) sum (x.get a-sum)= .tuple #[.int .i64 0,.int .i64 9]:=by rw[a0K,if_neg d1]
  have v2:∃n e,a0K (x.get b) sum (x.get b+sum)= .tuple #[.int .i64 n,.int .i64 e]:=by
   rw[a0K];split<;>exact⟨_,_,rfl⟩
  obtain⟨n,e,v2⟩:=v2
  rcases hab with⟨rfl,rfl⟩|⟨rfl,rfl⟩|⟨rfl,rfl⟩|⟨rfl,rfl⟩<;>(
   refine EN i229.eq_1 fun K hK=>Wa ?_
   (revert S;(try clear F);refine AL fun q h S F=> ?_)
   refine Wb @Led.enc.eq_1 ?_
   (revert S;(try clear F);refine AL fun g h S F=> ?_)
   refine Wa ?_
   refine cI (a2D _ _ ⟨by decide,by decide⟩) ?_
   rintro _ _ ⟨rfl,rfl⟩
   refine Wa ?_
   refine cI (a2D _ _ ⟨by decide,by decide⟩) ?_
   rintro _ _ ⟨rfl,rfl⟩
   refine Wc F @Led.enc.eq_1 ?_
   refine cI (a9O _ _ _) ?_
   rintro _ _ ⟨e1,rfl⟩
   rw[e1.trans v1]
   refine Wc F @Led.enc.eq_1 ?_
   refine cI (a9N _ _ _) ?_
   rintro _ _ ⟨e2,rfl⟩
   rw[e2.trans v2]
   refine Wa ?_
   (revert S;(try clear F);refine ST fun h S F=> ?_)
   refine Wb F ?_
   exact hK _ _ ⟨rfl,S.fr⟩)
end
section
set_option maxHeartbeats 8000000
def a1c(h0:c9)(L:Loc)(D:Cfg)(u:Value)(l:List HP)(x:Except Int Wk)(v:Value)(h':c9):Prop:=match x with
 | .error e=>e≠0∧v= .int .i64 e∧St h0 h' l
 | .ok w'=>v= .int .i64 0∧St h0 h' (wkA L D u w'::l)
section
variable{h0 h:c9}{l:List HP}{L:Loc}{D:Cfg}{u:Value}{w:Wk}{U:List Unt}{m b i:Nat}
theorem b1Y(num:Int)(S:St h0 h (wkA L D u w::l))(W:w.wf U m):d8 Tryz.prog 139 [.pointer (some ⟨L.p,0,none⟩),.int .i64 num] h fun v h'=>h'=h∧
  ((w.s.at_ num=none∧v= .tuple #[.pointer none,.int .i64 7])∨∃(i b:Nat),num=(i:Int)+1∧(num-1).toNat=i∧i<w.s.R.length∧w.s.at_ num=some (w.R i)∧L.A=some ⟨b,0,none⟩∧v= .tuple #[.pointer (some ⟨b,i*14,none⟩),.int .i64 0]):=by
 have hrl:=W.rl
 obtain⟨sd,vs,hv,S1⟩:=St.wk.1 S
 have hl:vs.length=w.s.R.length:=by rw[←hv,l_z]
 have F:=S1.fx
 by_cases h1:num<1
 ·refine EN i139.eq_1 fun K hK=> ?_
  refine Wa ?_
  refine hK _ _ ⟨rfl,.inl ⟨?_,rfl⟩⟩
  rw[Sag.at_,if_neg (by omega)]
 by_cases h2:(w.s.R.length:Int)<num
 ·refine EN i139.eq_1 fun K hK=> ?_
  refine Wc F @t8.eq_1 ?_
  refine hK _ _ ⟨rfl,.inl ⟨?_,rfl⟩⟩
  rw[Sag.at_,if_pos (by omega),Y1 (by omega)]
 obtain⟨i,hi⟩:∃i:Nat,num=(i:Int)+1:=⟨(num-1).toNat,by omega⟩
 subst hi
 have hil:i<w.s.R.length:=by omega
 have S4:=S1.p4
 obtain⟨b,hb⟩:=S4.ownAt (by omega)
 have e1:(i:Int)+1-1=(i:Int):=by omega
 refine EN i139.eq_1 fun K hK=> ?_
 refine We F @t8.eq_1 hb e1 ?_
 refine hK _ _ ⟨rfl,.inr ⟨i,b,rfl,by omega,hil,?_,hb,rfl⟩⟩
 rw[Sag.at_,if_pos (by omega),e1,K0,Wk.R,l_s,l_r hil]
 rfl
theorem b0E(kind num value:Int)(S:St h0 h (wkA L D u w::l))(W:w.wf U m)(hm:m<500000):d8 Tryz.prog 138 [.pointer (some ⟨L.p,0,none⟩),.int .i64 kind,.int .i64 num,.int .i64 value] h fun v h'=>St h0 h' (wkA L D u (I4 w kind num value)::l):=by
 have hkey:=W.key
 have hnow:=W.now
 have hol:=W.ol
 have hsl:=W.sl
 obtain⟨sd,vs,hv,S⟩:=St.wk.1 S
 obtain⟨A,c,rfl⟩:=S.p5.sl
 obtain⟨cs,hcs⟩:∃cs,cs=t8 D u L.k L.t L.o (.slice L.A w.s.R.length L.c) (.slice A w.sd.length c) w.s:=⟨_,rfl⟩
 have hb:=S.blk
 rw[←hcs]at hb
 have r14:∀K t,j8 (fun h'=>blk h' L.p=some (cs,113,(0,0))) (fun h'=>rd1 h' (.pointer (some ⟨L.p,14,none⟩))) K t=K (.slice A w.sd.length c):=fun K t=>rI (fun h' hh=>by rw[j3 hh,hcs];rfl) h hb
 have r12:∀K t,j8 (fun h'=>blk h' L.p=some (cs,113,(0,0))) (fun h'=>rd1 h' (.pointer (some ⟨L.p,12,none⟩))) K t=K (.pointer (some ⟨L.o,0,none⟩)):=fun K t=>rI (fun h' hh=>by rw[j3 hh,hcs];rfl) h hb
 have r13:∀K t,j8 (fun h'=>blk h' L.p=some (cs,113,(0,0))) (fun h'=>rd1 h' (.pointer (some ⟨L.p,13,none⟩))) K t=K (.int .i64 w.s.now):=fun K t=>rI (fun h' hh=>by rw[j3 hh,hcs];rfl) h hb
 refine EN i138.eq_1 fun K hK=>Wa ?_
 refine dI (fun h'=>blk h' L.p=some (cs,113,(0,0))) hb ?_
 refine Wd r14 r12 r13 ?_
 refine cI (c1v kind num value w.s.now S.p3 ⟨by omega,by omega⟩ ⟨by omega,by omega⟩ (by omega)) ?_
 clear S r14 r12 r13 hb
 rintro _ h ⟨rfl,S⟩
 refine⟨by rw[hcs];exact S.p1.blk,?_⟩
 refine Wb @Msg.enc.eq_1 ?_
 (revert S;(try clear F);refine AL fun q h S F=> ?_)
 refine⟨by rw[hcs];exact S.p2.blk,?_⟩
 refine Wa ?_
 refine tA1 (bytes:=48) (x:=(⟨w.s.key,kind,num,value,1,w.s.now+1⟩:Msg)) enc_len (by omega) enc_plain rfl rfl S.p6.p1 (by omega) (by omega) ?_
 clear S F
 intro v h S
 obtain⟨A',c',rfl⟩:=S.sl
 refine Wa ?_
 refine tS S.p2 rfl rfl (l_a rfl) ?_
 clear S
 intro h S
 rw[t8]at S
 replace S:=S.nm
 refine Wa ?_
 refine hK _ _ ?_
 have S:St h0 h (d9 L.p (t8 D u L.k L.t L.o (.slice L.A (I4 w kind num value).s.R.length L.c) (.slice A' (w.sd++ [(⟨w.s.key,kind,num,value,1,w.s.now+1⟩:Msg)]).length c') (I4 w kind num value).s) 113::i4 Msg.enc 6 128 (.slice A' (w.sd++ [(⟨w.s.key,kind,num,value,1,w.s.now+1⟩:Msg)]).length c') (I4 w kind num value).sd::D8 L.o (I4 w kind num value).s.key (I4 w kind num value).s.O::t6 L.k (I4 w kind num value).s.K::H2 L.t (I4 w kind num value).s.T::i4 i0.enc 14 136 (.slice L.A (I4 w kind num value).s.R.length L.c) vs::(vs.map j2++l)):=S
 exact St.wk.2 ⟨_,vs,hv,by(exact PM S)⟩
theorem a4b(S:St h0 h (wkA L D u w::l))(W:w.wf U m)(hU:U.length≤200)(hA:L.A=some ⟨b,0,none⟩)(hi:i<w.s.R.length):d8 Tryz.prog 141 [.pointer (some ⟨L.p,0,none⟩),.pointer (some ⟨b,i*14,none⟩)] h fun v h'=>St h0 h' (wkA L D u (j5 w i)::l):=by
 have hrl:=W.rl
 obtain⟨x,hx,hrd,_,_,_⟩:=S.wkRet hA hi
 have q4:=hrd 4 (by omega)
 simp only[i0.enc,l_o,l_p,hx]at q4
 by_cases h1:0≤(w.R i).res
 case neg=>
  have e:j5 w i=w:=if_neg h1
  rw[e]
  refine EN i141.eq_1 fun K hK=> ?_
  refine Wb q4 ?_
  exact hK _ _ S
 have e:j5 w i=(w.mv (w.R i).res 3).put i {w.R i with res:= -1}:=if_pos h1
 rw[e]
 obtain⟨sd,M,Sc,_⟩:=S.wkCell
 have F:=Sc.fx
 refine EN i141.eq_1 fun K hK=> ?_
 refine Wb q4 ?_
 refine dE ?_
 refine Wd q4 F @t8.eq_1 ?_
 clear F Sc
 obtain⟨M',S1,back⟩:=S.wkStock
 have hkl:=W.kl
 refine cI (a0L _ 3 S1 (by omega)) ?_
 clear S S1 hrd q4
 rintro _ h ⟨rfl,S1⟩
 have S:St h0 h (wkA L D u (w.mv (w.R i).res 3)::l):=back _ _ S1
 clear S1 back
 refine Wa ?_
 refine Y6 (r':={w.R i with res:= -1}) S hA hi (j:=4) (by omega) rfl rfl rfl (fun x hx=>by rw[i0.enc,i0.enc,hx];rfl) ?_
 clear S
 intro h S
 refine Wa ?_
 exact hK _ _ S
end
end
end Go.Proofs.YtjagmebglhbdkaaGreat.MX
