import Derived.Test.YtjagmebglhbdkaaGreatK14
namespace Go.Proofs.YtjagmebglhbdkaaGreat.MX
open Go Go.Proofs
set_option linter.unusedSimpArgs false
set_option linter.unusedVariables false
section
set_option maxHeartbeats 4000000
section
variable{h0 h:c9}{l:List HP}
theorem b7r{A:Option Addr}{c:Nat}{fv:Value}(L X Y R:List Int){n a m b:Nat}(hn:n=(L++(X++(Y++R))).length)(ha:a=L.length)(hm:m=L.length+X.length)(hb:b=m+Y.length)(hX:0<X.length)(hY:0<Y.length)(hs:n<1000000)
  (S:St h0 h (i4 i6 1 3 (.slice A n c) (L++(X++(Y++R)))::l)):
  d8 Tryz.prog 238 [.slice A n c,.int .i64 a,.int .i64 m,.int .i64 b,fv] h fun v h'=>St h0 h' (i4 i6 1 3 (.slice A n c) (L++(Y++(X++R)))::l):=by
 have hnl:n=L.length+(X.length+(Y.length+R.length)):=by rw[hn];simp only[l_m]
 have w1:=a1V (a:=m) (b:=a) (c:=X.length) (by omega) (by omega)
 have w2:=a1V (a:=b) (b:=m) (c:=Y.length) (by omega) (by omega)
 refine EN i238.eq_1 fun K hK=> ?_
 refine Wd @i238.eq_1 w1 w2 ?_
 refine lI (fun ρ h'=>ρ 0= .slice A n c∧ρ 2= .int .i64 m∧ρ 4=fv∧∃L' P Q R':List Int,ρ 10= .int .i64 P.length∧ρ 11= .int .i64 Q.length∧0<P.length∧0<Q.length∧m=L'.length+P.length∧n=(L'++(P++(Q++R'))).length∧L'++(Q++(P++R'))=L++(Y++(X++R))∧St h0 h' (i4 i6 1 3 (.slice A n c) (L'++(P++(Q++R')))::l)) (fun ρ _=>(iv (ρ 10)).toNat+(iv (ρ 11)).toNat) ?_ ?_
 ·refine Wa ?_
  exact⟨L,X,Y,R,rfl,rfl,hX,hY,hm,hn,rfl,S⟩
 ·clear S w1 w2
  rintro ρ h J hJ ⟨e0,e2,e4,L',P,Q,R',e10,e11,hP,hQ,hm',hn',ht,S⟩
  have hnl':n=L'.length+(P.length+(Q.length+R'.length)):=by rw[hn'];simp only[l_m]
  have w1:=a1V (a:=m) (b:=P.length) (c:=L'.length) (by omega) (by omega)
  by_cases heq:(P.length:Int)=Q.length
  case neg=>
   refine Wd e10 e11 @heq ?_
   by_cases hgt:(Q.length:Int)<P.length
   ·have w2:=a1V (a:=P.length) (b:=Q.length) (c:=P.length-Q.length) (by omega) (by omega)
    have hsp:P=P.take Q.length++P.drop Q.length:=(G0 _ _).symm
    have hl1:(P.take Q.length).length=Q.length:=by rw[x4];omega
    have hl2:(P.drop Q.length).length=P.length-Q.length:=M2
    refine Wh e0 e2 e4 e10 e11 hgt w1 ?_
    rw[←hl2]at w2
    generalize P.take Q.length=P1 at hsp hl1
    generalize P.drop Q.length=P2 at hsp hl2 w2
    subst hsp
    rw[l_q]at S
    refine cI (a1W L' P1 P2 Q R' hl1 (by rw[hn',l_q]) rfl (by rw[hm',l_m];omega) hs hl1.symm S) ?_
    clear S
    intro _ h S
    refine Wd e10 e11 w2 ?_
    refine hJ _ _ ?_ ?_
    ·refine Wd e0 e2 e4 ?_
     refine⟨L'++Q,P2,P1,R',rfl,by rw[hl1,e11],by simp only[l_m]at*;omega,by omega,by simp only[l_m]at*;omega,by simp only[l_m]at*;omega,?_,?_⟩
     ·rw[←ht];simp only[l_q]
     ·rw[l_q];exact S
    ·refine Wc e10 e11 ?_
     simp only[l_m]at*
     omega
   ·have hlt:P.length<Q.length:=by omega
    have w2:=a1V (a:=Q.length) (b:=P.length) (c:=Q.length-P.length) (by omega) (by omega)
    have w3:=a3G (a:=m) (b:=Q.length) rfl (by omega)
    have w4:=a1V (a:=m+Q.length) (b:=P.length) (c:=m+(Q.length-P.length)) (by omega) (by omega)
    have hsp:Q=Q.take (Q.length-P.length)++Q.drop (Q.length-P.length):=(G0 _ _).symm
    have hl1:(Q.take (Q.length-P.length)).length=Q.length-P.length:=by rw[x4];omega
    have hl2:(Q.drop (Q.length-P.length)).length=P.length:=by rw[M2];omega
    refine Wi e0 e2 e4 e10 e11 hgt w1 (Pc w3 w4) ?_
    rw[←hl1]at w2
    generalize hQ1:Q.take (Q.length-P.length)=Q1 at hsp hl1 w2
    generalize hQ2:Q.drop (Q.length-P.length)=Q2 at hsp hl2
    have hbl:m+(Q.length-P.length)=L'.length+P.length+Q1.length:=by omega
    rw[hbl]
    have S2:=S
    rw[hsp,l_q]at S2
    refine cI (a1W L' P Q1 Q2 R' hl2.symm (by rw[hn',hsp,l_q]) rfl rfl hs rfl S2) ?_
    clear S S2
    intro _ h S
    refine Wd e10 e11 w2 ?_
    refine hJ _ _ ?_ ?_
    ·refine We e0 e2 e4 e10 ?_
     refine⟨L',Q2,Q1,P++R',by rw[hl2],rfl,by omega,by omega,by omega,by simp only[l_m]at*;omega,?_,S⟩
     rw[←ht,hsp];simp only[l_q]
    ·refine Wc e10 e11 ?_
     omega
  case pos=>
   have heq':P.length=Q.length:=by omega
   have hd:=dT heq
   refine Wh e0 e2 e4 e10 e11 hd w1 ?_
   have S0:St h0 h (i4 i6 1 3 (.slice A n c) (L'++(P++([]++(Q++R'))))::l):=S
   have hc:=a1W (fv:=fv) L' P [] Q R' heq' hn' rfl (show m=L'.length+P.length+0 from hm') hs rfl S0
   refine cI hc ?_
   clear S
   intro _ h S
   refine Wa ?_
   rw[l_k,ht]at S
   exact hK _ _ S
end
end
section
set_option maxHeartbeats 4000000
def Rk(Kf:Int→Nat)(x y:Int):Prop:=Kf y<Kf x∨(Kf x=Kf y∧x<y)
theorem Rk.trans{Kf:Int→Nat}{x y z:Int}(h1:Rk Kf x y)(h2:Rk Kf y z):Rk Kf x z:=by
 unfold Rk at*
 omega
def b0T(fv:Value)(Kf:Int→Nat)(dom:Int→Prop)(h0:c9)(A:Option Addr)(n c:Nat)(l:List HP):Prop:=
 ∀{h':c9}{D:List Int}{K:Value→c9→Prop}{s:Tag h'}{t:Tag K} (a b:Int),dom a→dom b→St h0 h' (i4 i6 1 3 (.slice A n c) D::l)→
  (∀(v:Int) (h'':c9),(v<0↔Kf b<Kf a)→St h0 h'' (i4 i6 1 3 (.slice A n c) D::l)→K (.int .i64 v) h'')→a3I Tryz.prog fv [.int .i64 a,.int .i64 b] h' K s t
section
variable{h0 h:c9}{l:List HP}{Kf:Int→Nat}{dom:Int→Prop}{fv:Value}{A:Option Addr}{n c:Nat}
theorem a7s(hcmp:b0T fv Kf dom h0 A n c l)(L M R:List Int){a b:Nat}(hn:n=(L++(M++R)).length)(ha:a=L.length)(hb:b=L.length+M.length)(hs:n<1000000)(hM:M.Pairwise (· < ·))(hd:∀x∈M,dom x)
  (S:St h0 h (i4 i6 1 3 (.slice A n c) (L++(M++R))::l)):
  d8 Tryz.prog 231 [.slice A n c,.int .i64 a,.int .i64 b,fv] h fun v h'=>∃M',M'.Perm M∧M'.Pairwise (Rk Kf)∧St h0 h' (i4 i6 1 3 (.slice A n c) (L++(M'++R))::l):=by
 have hnl:n=L.length+(M.length+R.length):=by rw[hn];simp only[l_m]
 have w1:IntKind.i64.wrap ((a:Int)+1)=((a+1:Nat):Int):=a3G (a:=a) (b:=1) rfl (by omega)
 refine EN i231.eq_1 fun K hK=> ?_
 (refine Wc @i231.eq_1 w1 ?_;try exact⟨⟩)
 refine lI (fun ρ h'=>ρ 0= .slice A n c∧ρ 1= .int .i64 a∧ρ 2= .int .i64 b∧ρ 3=fv∧∃(k:Nat) (Ms:List Int),ρ 8= .int .i64 ((a+k:Nat):Int)∧1≤k∧k≤M.length+1∧Ms.Perm (M.take k)∧Ms.Pairwise (Rk Kf)∧St h0 h' (i4 i6 1 3 (.slice A n c) (L++(Ms++(M.drop k++R)))::l)) (fun ρ _=>b-(iv (ρ 8)).toNat) ?_ ?_
 ·(refine Wa ?_;try exact⟨⟩)
  refine⟨1,M.take 1,rfl,by omega,by omega,.refl _,?_,?_⟩
  ·cases M with
   |nil=>simp
   |cons x M=>simp
  ·rw[←l_q (M.take 1),G0]
   exact S
 ·clear S
  rintro ρ h J hJ ⟨e0,e1,e2,e3,k,Ms,e8,hk1,hk2,hp,hso,S⟩
  (refine Wc e8 e2 ?_;try exact⟨⟩)
  refine cD (fun hlt=> ?_) (fun hlt=> ?_)
  ·have hkM:k<M.length:=by omega
   have hMsl:Ms.length=k:=by rw[hp.length_eq,x4];omega
   have hxd:dom M[k]:=hd _ (l_v hkM)
   have hmem:∀y∈Ms,dom y∧y<M[k]:=by
    intro y hy
    have hy':=hp.mem_iff.1 hy
    obtain⟨j,hj,rfl⟩:=List.mem_iff_getElem.1 hy'
    rw[x4]at hj
    rw[List.getElem_take]
    exact⟨hd _ (l_v _),List.pairwise_iff_getElem.1 hM j k (by omega) hkM (by omega)⟩
   rw[X8 hkM]at S
   generalize hx:M[k]=x at S hxd hmem
   generalize hMd:M.drop (k+1)=Mu at S
   (refine Wb e8 ?_;try exact⟨⟩)
   refine lI (fun ρ' h'=>ρ' 0=ρ 0∧ρ' 1=ρ 1∧ρ' 2=ρ 2∧ρ' 3=ρ 3∧ρ' 8=ρ 8∧∃t:Nat,ρ' 9= .int .i64 ((a+t:Nat):Int)∧t≤Ms.length∧(∀y∈Ms.drop t,Rk Kf x y)∧St h0 h' (i4 i6 1 3 (.slice A n c) (L++(Ms.take t++(x::(Ms.drop t++(Mu++R)))))::l)) (fun ρ' _=>(iv (ρ' 9)).toNat) ?_ ?_
   ·(refine Wb e8 ?_;try exact⟨⟩)
    refine⟨k,rfl,by omega,?_,?_⟩
    ·rw[List.drop_eq_nil_of_le (by omega)];simp
    ·rw[List.drop_eq_nil_of_le (by omega),a2E (by omega)]
     simpa using S
   ·clear S
    rintro ρ1 h1 J1 hJ1 ⟨q0,q1,q2,q3,q8,t,q9,ht,hdr,S⟩
    have hrest:∀{ρ':Env}{h':c9},ρ' 0=ρ 0→ρ' 1=ρ 1→ρ' 2=ρ 2→ρ' 3=ρ 3→ρ' 8= .int .i64 ((a+(k+1):Nat):Int)→(∀y∈Ms.take t,Rk Kf y x)→St h0 h' (i4 i6 1 3 (.slice A n c) (L++(Ms.take t++(x::(Ms.drop t++(Mu++R)))))::l)→J ρ' h':=by
     intro ρ' h' p0 p1 p2 p3 p8 htk S
     refine hJ _ _ ⟨p0.trans e0,p1.trans e1,p2.trans e2,p3.trans e3,k+1,Ms.take t++x::Ms.drop t,p8,by omega,by omega,?_,?_,?_⟩ ?_
     ·have h1:(Ms.take t++x::Ms.drop t).Perm (x::Ms):=by
       have:=List.perm_middle (a:=x) (l₁:=Ms.take t) (l₂:=Ms.drop t)
       rwa[G0]at this
      rw[l_t hkM,hx]
      exact h1.trans ((List.Perm.cons x hp).trans (List.perm_append_comm (l₁:=[x])))
     ·have h1:=hso
      rw[←G0 t Ms,a1o]at h1
      rw[a1o,List.pairwise_cons]
      refine⟨h1.1,⟨hdr,h1.2.1⟩,fun y hy z hz=> ?_⟩
      rcases List.mem_cons.1 hz with rfl|hz
      ·exact htk y hy
      ·exact h1.2.2 y hy z hz
     ·rw[hMd]
      simpa only[l_q,l_j]using S
     ·rw[p8,e8]
      simp only[iv]
      omega
    (refine Wa ?_;try exact⟨⟩)
    refine cS S (fun ρ' h'=>ρ' 0=ρ 0∧ρ' 1=ρ 1∧ρ' 2=ρ 2∧ρ' 3=ρ 3∧ρ' 8=ρ 8∧ρ' 9= .int .i64 ((a+t:Nat):Int)∧ρ' 34= .bool (dcd (∃y,(Ms.take t)[t-1]? =some y∧0<t∧Kf y<Kf x))∧St h0 h' (i4 i6 1 3 (.slice A n c) (L++(Ms.take t++(x::(Ms.drop t++(Mu++R)))))::l)) ?_ ?_
    ·intro J2 hJ2
     by_cases ht0:t=0
     ·subst ht0
      have c1:¬((a:Int)<((a+0:Nat):Int)):=by omega
      (refine We q9 q1 e1 c1 ?_;try exact⟨⟩)
      refine hJ2 _ _ ?_
      (refine Wf q0 q1 q2 q3 q8 ?_;try exact⟨⟩)
      exact⟨by simpa using q9,by rw[dF];rintro⟨y,_,h,_⟩;omega,S⟩
     ·obtain⟨t',rfl⟩:∃t',t=t'+1:=⟨t-1,by omega⟩
      have htl:t'<Ms.length:=by omega
      have hD:L++(Ms.take (t'+1)++(x::(Ms.drop (t'+1)++(Mu++R))))=(L++Ms.take t')++Ms[t']::([]++x::(Ms.drop (t'+1)++(Mu++R))):=by
       rw[l_t htl]
       simp only[l_q,l_j,l_k]
      obtain⟨g1,g2,_,_⟩:=a1y (L++Ms.take t') [] (Ms.drop (t'+1)++(Mu++R)) Ms[t'] x
      have hl1:(L++Ms.take t').length=a+t':=by rw[l_m,x4];omega
      have hl2:(L++Ms.take t').length+1+([]:List Int).length=a+(t'+1):=by rw[hl1,l_g];omega
      rw[←hD,hl1]at g1
      rw[←hD,hl2]at g2
      obtain⟨bk,rfl⟩:=S.ownAt (by simp only[l_m,l_f];omega)
      have rx:∀K u,j8 (fun h'=>St h0 h' (i4 i6 1 3 (.slice (some ⟨bk,0,none⟩) n c) (L++(Ms.take (t'+1)++(x::(Ms.drop (t'+1)++(Mu++R)))))::l)) (fun h'=>rd1 h' (.pointer (some ⟨bk,(a+t')*1,none⟩))) K u=D7 (some (.int .i64 Ms[t'])) K ⟨⟩:=fun K u=>E7 S fun h' s=>F8 s g1
      have ry:∀K u,j8 (fun h'=>St h0 h' (i4 i6 1 3 (.slice (some ⟨bk,0,none⟩) n c) (L++(Ms.take (t'+1)++(x::(Ms.drop (t'+1)++(Mu++R)))))::l)) (fun h'=>rd1 h' (.pointer (some ⟨bk,(a+(t'+1))*1,none⟩))) K u=D7 (some (.int .i64 x)) K ⟨⟩:=fun K u=>E7 S fun h' s=>F8 s g2
      have w2:IntKind.i64.wrap (((a+(t'+1):Nat):Int)-1)=((a+t':Nat):Int):=a1V (a:=a+(t'+1)) (b:=1) (c:=a+t') (by omega) (by omega)
      have c1:(a:Int)<((a+(t'+1):Nat):Int):=by omega
      (refine Wi q9 q1 e1 q0 e0 q3 e3 (Pe c1 w2 rx ry) ?_;try exact⟨⟩)
      have hget:(Ms.take (t'+1))[t'+1-1]? =some Ms[t']:=by rw[a4E,List.getElem?_take_of_lt (by omega),l_r htl]
      refine hcmp x Ms[t'] hxd (hmem _ (l_v htl)).1 S fun v h'' hv S=> ?_
      (refine Wa ?_;try exact⟨⟩)
      refine hJ2 _ _ ?_
      (refine Wf q0 q1 q2 q3 q8 ?_;try exact⟨⟩)
      rw[a4E]at hget
      exact⟨q9,congrArg Value.bool (congrArg dcd (propext ⟨fun h=>⟨_,hget,by omega,hv.1 h⟩,fun⟨y,hy,_,h⟩=>hv.2 (by rw[hget]at hy;cases hy;exact h)⟩)),S⟩
    ·clear S q0 q1 q2 q3 q8
     have o9:=q9
     clear q9
     rintro ρ2 h2 ⟨q0,q1,q2,q3,q8,q9,q34,S⟩
     (refine Wb q34 ?_;try exact⟨⟩)
     refine cD (fun had=> ?_) (fun had=> ?_)
     ·obtain⟨y,hy,ht0,hlt⟩:=had
      obtain⟨t',rfl⟩:∃t',t=t'+1:=⟨t-1,by omega⟩
      have htl:t'<Ms.length:=by omega
      have hget:(Ms.take (t'+1))[t'+1-1]? =some Ms[t']:=by rw[a4E,List.getElem?_take_of_lt (by omega),l_r htl]
      rw[hget]at hy
      cases hy
      have hD:L++(Ms.take (t'+1)++(x::(Ms.drop (t'+1)++(Mu++R))))=(L++Ms.take t')++Ms[t']::([]++x::(Ms.drop (t'+1)++(Mu++R))):=by
       rw[l_t htl]
       simp only[l_q,l_j,l_k]
      have hD2:(L++Ms.take t')++x::([]++Ms[t']::(Ms.drop (t'+1)++(Mu++R)))=L++(Ms.take t'++(x::(Ms.drop t'++(Mu++R)))):=by
       rw[X8 htl]
       simp only[l_q,l_j,l_k]
      obtain⟨g1,g2,_,g4⟩:=a1y (L++Ms.take t') [] (Ms.drop (t'+1)++(Mu++R)) Ms[t'] x
      have hl1:(L++Ms.take t').length=a+t':=by rw[l_m,x4];omega
      have hl2:(L++Ms.take t').length+1+([]:List Int).length=a+(t'+1):=by rw[hl1,l_g];omega
      have hDl:(L++(Ms.take (t'+1)++(x::(Ms.drop (t'+1)++(Mu++R))))).length=a+(t'+1)+1+((Ms.length-(t'+1))+(Mu.length+R.length)):=by simp only[l_m,l_f,x4,M2];omega
      rw[←hD,hl1]at g1
      rw[←hD,hl2]at g2
      rw[←hD,hl2,hl1,hD2]at g4
      obtain⟨bk,rfl⟩:=S.ownAt (by rw[hDl];omega)
      have r1:=F8 S g1
      have r2:=F8 S g2
      have w2:IntKind.i64.wrap (((a+(t'+1):Nat):Int)-1)=((a+t':Nat):Int):=a1V (a:=a+(t'+1)) (b:=1) (c:=a+t') (by omega) (by omega)
      (refine Wa ?_;try exact⟨⟩)
      refine dE ?_
      (refine Wg q0 e0 q9 w2 r1 r2 ?_;try exact⟨⟩)
      refine v7 (i:=a+(t'+1)) (x:=Ms[t']) zEl S (by rw[hDl];omega) rfl rfl rfl rfl ?_
      clear S r1 r2
      intro h S
      (refine Wa ?_;try exact⟨⟩)
      refine v7 (i:=a+t') (x:=x) zEl S (by rw[T3,hDl];omega) rfl rfl rfl rfl ?_
      clear S
      intro h S
      rw[g4]at S
      (refine Wc q9 w2 ?_;try exact⟨⟩)
      refine hJ1 _ _ ?_ ?_
      ·(refine Wf q0 q1 q2 q3 q8 ?_;try exact⟨⟩)
       refine⟨t',rfl,by omega,fun y hy=> ?_,S⟩
       rw[X8 htl]at hy
       rcases List.mem_cons.1 hy with rfl|hy
       ·exact .inl hlt
       ·exact hdr y hy
      ·(refine Wb o9 ?_;try exact⟨⟩)
       omega
     ·have w8:IntKind.i64.wrap (((a+k:Nat):Int)+1)=((a+(k+1):Nat):Int):=a3G (a:=a+k) (b:=1) (by omega) (by omega)
      (refine Wd q8 e8 w8 ?_;try exact⟨⟩)
      refine hrest (by(refine Wb q0 ?_;try exact⟨⟩)) (by(refine Wb q1 ?_;try exact⟨⟩)) (by(refine Wb q2 ?_;try exact⟨⟩)) (by(refine Wb q3 ?_;try exact⟨⟩)) (by(refine Wa ?_;try exact⟨⟩)) ?_ S
      intro y hy
      have ht0:0<t:=by
       apply Nat.pos_of_ne_zero
       intro h0
       subst h0
       simp at hy
      have htl:t-1<Ms.length:=by omega
      have hget:(Ms.take t)[t-1]? =some Ms[t-1]:=by rw[List.getElem?_take_of_lt (by omega),l_r htl]
      have hn':¬Kf Ms[t-1]<Kf x:=fun h=>had ⟨_,hget,ht0,h⟩
      have hlast:Rk Kf Ms[t-1] x:=by
       have:=(hmem _ (l_v htl)).2
       unfold Rk
       omega
      obtain⟨j,hj,rfl⟩:=List.mem_iff_getElem.1 hy
      rw[x4]at hj
      rw[List.getElem_take]
      by_cases e:j=t-1
      ·subst e;exact hlast
      ·exact(List.pairwise_iff_getElem.1 hso j (t-1) (by omega) htl (by omega)).trans hlast
  ·(refine Wa ?_;try exact⟨⟩)
   refine hK _ _ ⟨Ms,?_,hso,?_⟩
   ·rw[a2E (by omega)]at hp
    exact hp
   ·rw[List.drop_eq_nil_of_le (by omega),l_k]at S
    exact S
end
end
section
set_option maxHeartbeats 4000000
theorem a5Q{Kf:Int→Nat}{Y:List Int}(hs:Y.Pairwise (Rk Kf)){i j:Nat}(hj:j<Y.length)(hij:i≤j):Kf Y[j]≤Kf (Y[i]'(by omega)):=by
 by_cases e:i=j
 ·subst e;exact x9 _
 ·have:=List.pairwise_iff_getElem.1 hs i j (by omega) hj (by omega)
  unfold Rk at this
  omega
theorem b5d{i j:Nat}(h:i+j<9223372036854775808):IntKind.i64.wrap (((i:Int)+j).fdiv (2^min 1 64))=(((i+j)/2:Nat):Int):=by
 rw[show(2:Int)^min 1 64=2 from rfl,Int.fdiv_eq_ediv_of_nonneg _ (by omega),show((i:Int)+j)/2=(((i+j)/2:Nat):Int) by omega]
 exact b1I (by omega)
theorem a7T{Kf:Int→Nat}{Y:List Int}{x:Int}{p:Nat}(hs:Y.Pairwise (Rk Kf))(h1:∀y∈Y.take p,Rk Kf y x)(h2:∀y∈Y.drop p,Rk Kf x y):(Y.take p++x::Y.drop p).Pairwise (Rk Kf):=by
 have h:=hs
 rw[←G0 p Y,a1o]at h
 rw[a1o,List.pairwise_cons]
 refine⟨h.1,⟨h2,h.2.1⟩,fun y hy z hz=> ?_⟩
 rcases List.mem_cons.1 hz with rfl|hz
 ·exact h1 y hy
 ·exact h.2.2 y hy z hz
theorem a3i{Y:List Int}{p:Nat}{y:Int}(h:y∈Y.take p):∃i,∃hi:i<Y.length,i<p∧y=Y[i]:=by
 obtain⟨i,hi,rfl⟩:=List.mem_iff_getElem.1 h
 rw[x4]at hi
 exact⟨i,by omega,by omega,by rw[List.getElem_take]⟩
theorem a0i{Y:List Int}{p:Nat}{y:Int}(h:y∈Y.drop p):∃i,∃hi:i<Y.length,p≤i∧y=Y[i]:=by
 obtain⟨i,hi,rfl⟩:=List.mem_iff_getElem.1 h
 rw[M2]at hi
 exact⟨p+i,by omega,by omega,by rw[List.getElem_drop]⟩
section
variable{h0 h:c9}{l:List HP}{Kf:Int→Nat}{dom:Int→Prop}{fv:Value}{A:Option Addr}{n c:Nat}
def a6K(fv:Value)(Kf:Int→Nat)(dom:Int→Prop)(h0:c9)(A:Option Addr)(n c:Nat)(l:List HP)(X Y:List Int):Prop:=
 ∀(L R:List Int) {h:c9}{a m b:Nat},n=(L++(X++(Y++R))).length→a=L.length→m=L.length+X.length→b=L.length+X.length+Y.length→0<X.length→0<Y.length→X.Pairwise (Rk Kf)→Y.Pairwise (Rk Kf)→
  (∀x∈X,∀y∈Y,x<y)→(∀x∈X,dom x)→(∀y∈Y,dom y)→St h0 h (i4 i6 1 3 (.slice A n c) (L++(X++(Y++R)))::l)→
  d8 Tryz.prog 232 [.slice A n c,.int .i64 a,.int .i64 m,.int .i64 b,fv] h fun v h'=>∃Z,Z.Perm (X++Y)∧Z.Pairwise (Rk Kf)∧St h0 h' (i4 i6 1 3 (.slice A n c) (L++(Z++R))::l)
theorem b6T(hcmp:b0T fv Kf dom h0 A n c l)(hs:n<1000000)(x:Int)(Y:List Int):a6K fv Kf dom h0 A n c l [x] Y:=by
 intro L R h a m b hn ha hm hb hX hY hXs hYs hXY hdX hdY S
 have hnl:n=L.length+(1+(Y.length+R.length)):=by rw[hn];simp only[l_m,l_f,l_g]
 simp only[l_f,l_g]at hm hb
 have hdx:dom x:=hdX x (by simp)
 have hxY:∀y∈Y,x<y:=hXY x (by simp)
 have S1:St h0 h (i4 i6 1 3 (.slice A n c) (L++(x::(Y++R)))::l):=S
 clear S hX hXs hXY hdX hn
 have w1:=a1V (a:=m) (b:=a) (c:=1) (by omega) (by omega)
 have cw:((1:Nat):Int)=1:=rfl
 rw[cw]at w1
 refine EN i232.eq_1 fun K hK=> ?_
 refine Wc @i232.eq_1 w1 ?_
 refine lI (fun ρ h'=>ρ 0= .slice A n c∧ρ 1= .int .i64 a∧ρ 4=fv∧∃p q:Nat,ρ 10= .int .i64 ((m+p:Nat):Int)∧ρ 11= .int .i64 ((m+q:Nat):Int)∧p≤q∧q≤Y.length∧(∀i (hi:i<Y.length),i+1=p→Kf x<Kf Y[i])∧(∀(hq:q<Y.length),¬Kf x<Kf Y[q])∧St h0 h' (i4 i6 1 3 (.slice A n c) (L++(x::(Y++R)))::l)) (fun ρ _=>(iv (ρ 11)).toNat-(iv (ρ 10)).toNat) ?_ ?_
 ·refine Wa ?_
  exact⟨0,Y.length,rfl,congrArg (Value.int .i64) (by omega),by omega,by omega,fun i hi h=>by omega,fun h=>by omega,S1⟩
 clear S1 w1
 rintro ρ h J hJ ⟨e0,e1,e4,p,q,e10,e11,hpq,hqY,hp,hq,S⟩
 refine Wc e10 e11 ?_
 refine cD (fun hlt=> ?_) (fun hlt=> ?_)
 ·have hw:=b5d (i:=m+p) (j:=m+q) (by omega)
  obtain⟨e,he⟩:∃e,(m+p+(m+q))/2=m+e:=⟨(m+p+(m+q))/2-m,by omega⟩
  rw[he]at hw
  have hep:p≤e∧e<q:=by omega
  have heY:e<Y.length:=by omega
  have g1:(L++(x::(Y++R)))[m+e]? =some Y[e]:=by
   rw[a8x (by omega),show m+e-L.length=e+1 by omega,l_p,List.getElem?_append_left heY,l_r heY]
  have g2:(L++(x::(Y++R)))[a]? =some x:=by
   rw[a8x (by omega),show a-L.length=0 by omega];rfl
  obtain⟨bk,rfl⟩:=S.ownAt (by simp only[l_m,l_f];omega)
  have rx:∀K u,j8 (fun h'=>St h0 h' (i4 i6 1 3 (.slice (some ⟨bk,0,none⟩) n c) (L++(x::(Y++R)))::l)) (fun h'=>rd1 h' (.pointer (some ⟨bk,(m+e)*1,none⟩))) K u=D7 (some (.int .i64 Y[e])) K ⟨⟩:=fun K u=>E7 S fun h' s=>F8 s g1
  have ry:∀K u,j8 (fun h'=>St h0 h' (i4 i6 1 3 (.slice (some ⟨bk,0,none⟩) n c) (L++(x::(Y++R)))::l)) (fun h'=>rd1 h' (.pointer (some ⟨bk,a*1,none⟩))) K u=D7 (some (.int .i64 x)) K ⟨⟩:=fun K u=>E7 S fun h' s=>F8 s g2
  refine Wd e10 e11 hw ?_
  refine Z8 S ?_
  refine Wf e0 e1 e4 rx ry ?_
  refine hcmp Y[e] x (hdY _ (l_v heY)) hdx S fun v h'' hv S=> ?_
  refine Wa ?_
  refine cD (fun hc=> ?_) (fun hc=> ?_)
  ·have w2:IntKind.i64.wrap (((m+e:Nat):Int)+1)=((m+(e+1):Nat):Int):=a3G (a:=m+e) (b:=1) (by omega) (by omega)
   refine Wb w2 ?_
   refine hJ _ _ ?_ ?_
   ·refine We e0 e1 e4 e11 ?_
    exact⟨e+1,q,rfl,rfl,by omega,hqY,fun i hi h=>by(obtain rfl:i=e:=by omega);exact hv.1 hc,hq,S⟩
   ·refine Wc e10 e11 ?_
    omega
  ·refine Wa ?_
   refine hJ _ _ ?_ ?_
   ·refine We e0 e1 e4 e10 ?_
    exact⟨p,e,rfl,rfl,by omega,by omega,hp,fun h hx=>hc (hv.2 hx),S⟩
   ·refine Wc e10 e11 ?_
    omega
 ·obtain rfl:p=q:=by omega
  have w2:IntKind.i64.wrap (((m+p:Nat):Int)-1)=((a+p:Nat):Int):=a1V (a:=m+p) (b:=1) (c:=a+p) (by omega) (by omega)
  refine Wc e1 e10 ?_
  refine lI (fun ρ' h'=>ρ' 0= .slice A n c∧ρ' 10= .int .i64 ((m+p:Nat):Int)∧∃s:Nat,ρ' 13= .int .i64 ((a+s:Nat):Int)∧s≤p∧St h0 h' (i4 i6 1 3 (.slice A n c) (L++(Y.take s++(x::(Y.drop s++R))))::l)) (fun ρ' _=>p-((iv (ρ' 13)).toNat-a)) ?_ ?_
  ·refine Wc e0 e10 ?_
   exact⟨0,rfl,by omega,S⟩
  ·clear S e0 e1 e4 e10 e11 hJ
   rintro ρ1 h1 J1 hJ1 ⟨e0,e10,s,e13,hsp,S⟩
   refine Wd e13 e10 w2 ?_
   refine cD (fun hlt=> ?_) (fun hlt=> ?_)
   ·have hsY:s<Y.length:=by omega
    have hD:L++(Y.take s++(x::(Y.drop s++R)))=(L++Y.take s)++x::([]++Y[s]::(Y.drop (s+1)++R)):=by
     rw[X8 hsY]
     simp only[l_q,l_j,l_k]
    have hD2:(L++Y.take s)++Y[s]::([]++x::(Y.drop (s+1)++R))=L++(Y.take (s+1)++(x::(Y.drop (s+1)++R))):=by
     rw[l_t hsY]
     simp only[l_q,l_j,l_k]
    obtain⟨g1,g2,g3,_⟩:=a1y (L++Y.take s) [] (Y.drop (s+1)++R) x Y[s]
    have hl1:(L++Y.take s).length=a+s:=by rw[l_m,x4];omega
    have hl2:(L++Y.take s).length+1+([]:List Int).length=a+s+1:=by rw[hl1,l_g]
    have hDl:(L++(Y.take s++(x::(Y.drop s++R)))).length=a+s+1+1+((Y.length-(s+1))+R.length):=by simp only[l_m,l_f,x4,M2];omega
    rw[←hD,hl1]at g1
    rw[←hD,hl2]at g2
    rw[←hD,hl2,hl1,hD2]at g3
    obtain⟨bk,rfl⟩:=S.ownAt (by rw[hDl];omega)
    have r1:=F8 S g1
    have r2:=F8 S g2
    have w3:IntKind.i64.wrap (((a+s:Nat):Int)+1)=((a+s+1:Nat):Int):=a3G (a:=a+s) (b:=1) (by omega) (by omega)
    refine Wa ?_
    refine dE ?_
    refine Wf e0 e13 w3 r1 r2 ?_
    refine v7 (i:=a+s) (x:=Y[s]) zEl S (by rw[hDl];omega) rfl rfl rfl rfl ?_
    clear S r1 r2
    intro h S
    refine Wa ?_
    refine v7 (i:=a+s+1) (x:=x) zEl S (by rw[T3,hDl];omega) rfl rfl rfl rfl ?_
    clear S
    intro h S
    rw[g3]at S
    refine Wc e13 w3 ?_
    refine hJ1 _ _ ?_ ?_
    ·refine Wc e0 e10 ?_
     exact⟨s+1,rfl,by omega,S⟩
    ·refine Wb e13 ?_
     omega
   ·obtain rfl:s=p:=by omega
    refine Wa ?_
    refine hK _ _ ⟨Y.take s++x::Y.drop s,?_,a7T hYs (fun y hy=> ?_) (fun y hy=> ?_),?_⟩
    ·have:=List.perm_middle (a:=x) (l₁:=Y.take s) (l₂:=Y.drop s)
     rwa[G0]at this
    ·obtain⟨i,hi,his,rfl⟩:=a3i hy
     have h1:=hp (s-1) (by omega) (by omega)
     have h2:=a5Q (Kf:=Kf) hYs (i:=i) (j:=s-1) (by omega) (by omega)
     exact .inl (by omega)
    ·obtain⟨i,hi,his,rfl⟩:=a0i hy
     have h1:=hq (by omega)
     have h2:=a5Q (Kf:=Kf) hYs (i:=s) (j:=i) hi his
     have h3:=hxY _ (l_v hi)
     unfold Rk
     omega
    ·simpa only[l_q,l_j]using S
theorem b3B(hcmp:b0T fv Kf dom h0 A n c l)(hs:n<1000000)(X:List Int)(y:Int)(hX2:X.length≠1):a6K fv Kf dom h0 A n c l X [y]:=by
 intro L R h a m b hn ha hm hb hX hY hXs hYs hXY hdX hdY S
 have hnl:n=L.length+(X.length+(1+R.length)):=by rw[hn];simp only[l_m,l_f,l_g]
 simp only[l_f,l_g]at hb
 have hdy:dom y:=hdY y (by simp)
 have hxY:∀x∈X,x<y:=fun x hx=>hXY x hx y (by simp)
 have S1:St h0 h (i4 i6 1 3 (.slice A n c) (L++(X++(y::R)))::l):=S
 clear S hY hYs hXY hdY hn
 have w0:=a1V (a:=m) (b:=a) (c:=X.length) (by omega) (by omega)
 have w1:=a1V (a:=b) (b:=m) (c:=1) (by omega) (by omega)
 have cw:((1:Nat):Int)=1:=rfl
 rw[cw]at w1
 have hX2':¬(X.length:Int)=1:=by omega
 refine EN i232.eq_1 fun K hK=> ?_
 refine We @i232.eq_1 w0 w1 hX2' ?_
 refine lI (fun ρ h'=>ρ 0= .slice A n c∧ρ 2= .int .i64 m∧ρ 4=fv∧∃p q:Nat,ρ 14= .int .i64 ((a+p:Nat):Int)∧ρ 15= .int .i64 ((a+q:Nat):Int)∧p≤q∧q≤X.length∧(∀i (hi:i<X.length),i+1=p→¬Kf X[i]<Kf y)∧(∀(hq:q<X.length),Kf X[q]<Kf y)∧St h0 h' (i4 i6 1 3 (.slice A n c) (L++(X++(y::R)))::l)) (fun ρ _=>(iv (ρ 15)).toNat-(iv (ρ 14)).toNat) ?_ ?_
 ·refine Wa ?_
  exact⟨0,X.length,rfl,congrArg (Value.int .i64) (by omega),by omega,by omega,fun i hi h=>by omega,fun h=>by omega,S1⟩
 clear S1 w0 w1
 rintro ρ h J hJ ⟨e0,e2,e4,p,q,e14,e15,hpq,hqX,hp,hq,S⟩
 refine Wc e14 e15 ?_
 refine cD (fun hlt=> ?_) (fun hlt=> ?_)
 ·have hw:=b5d (i:=a+p) (j:=a+q) (by omega)
  obtain⟨e,he⟩:∃e,(a+p+(a+q))/2=a+e:=⟨(a+p+(a+q))/2-a,by omega⟩
  rw[he]at hw
  have hep:p≤e∧e<q:=by omega
  have heX:e<X.length:=by omega
  have g1:(L++(X++(y::R)))[a+e]? =some X[e]:=by
   rw[a8x (by omega),show a+e-L.length=e by omega,List.getElem?_append_left heX,l_r heX]
  have g2:(L++(X++(y::R)))[m]? =some y:=by
   rw[a8x (by omega),show m-L.length=X.length by omega,a8x (by omega),Nat.sub_self];rfl
  obtain⟨bk,rfl⟩:=S.ownAt (by simp only[l_m,l_f];omega)
  have rx:∀K u,j8 (fun h'=>St h0 h' (i4 i6 1 3 (.slice (some ⟨bk,0,none⟩) n c) (L++(X++(y::R)))::l)) (fun h'=>rd1 h' (.pointer (some ⟨bk,(a+e)*1,none⟩))) K u=D7 (some (.int .i64 X[e])) K ⟨⟩:=fun K u=>E7 S fun h' s=>F8 s g1
  have ry:∀K u,j8 (fun h'=>St h0 h' (i4 i6 1 3 (.slice (some ⟨bk,0,none⟩) n c) (L++(X++(y::R)))::l)) (fun h'=>rd1 h' (.pointer (some ⟨bk,m*1,none⟩))) K u=D7 (some (.int .i64 y)) K ⟨⟩:=fun K u=>E7 S fun h' s=>F8 s g2
  refine Wd e14 e15 hw ?_
  refine Z8 S ?_
  refine Wf e0 e2 e4 rx ry ?_
  refine hcmp y X[e] hdy (hdX _ (l_v heX)) S fun v h'' hv S=> ?_
  by_cases hc:v<0
  ·have hd:=dT hc
   refine Wb hd ?_
   refine hJ _ _ ?_ ?_
   ·refine We e0 e2 e4 e14 ?_
    exact⟨p,e,rfl,rfl,by omega,by omega,hp,fun h=>hv.1 hc,S⟩
   ·refine Wc e14 e15 ?_
    omega
  ·have hd:=dF hc
   have w2:IntKind.i64.wrap (((a+e:Nat):Int)+1)=((a+(e+1):Nat):Int):=a3G (a:=a+e) (b:=1) (by omega) (by omega)
   refine Wc hd w2 ?_
   refine hJ _ _ ?_ ?_
   ·refine We e0 e2 e4 e15 ?_
    exact⟨e+1,q,rfl,rfl,by omega,hqX,fun i hi h hx=>by(obtain rfl:i=e:=by omega);exact hc (hv.2 hx),hq,S⟩
   ·refine Wc e14 e15 ?_
    omega
 ·obtain rfl:p=q:=by omega
  refine Wc e2 e14 ?_
  refine lI (fun ρ' h'=>ρ' 0= .slice A n c∧ρ' 14= .int .i64 ((a+p:Nat):Int)∧∃s:Nat,ρ' 17= .int .i64 ((a+s:Nat):Int)∧p≤s∧s≤X.length∧St h0 h' (i4 i6 1 3 (.slice A n c) (L++(X.take s++(y::(X.drop s++R))))::l)) (fun ρ' _=>(iv (ρ' 17)).toNat) ?_ ?_
  ·refine Wc e0 e14 ?_
   refine⟨X.length,congrArg (Value.int .i64) (by omega),by omega,by omega,?_⟩
   rw[C9,List.drop_length]
   exact S
  ·clear S e0 e2 e4 e14 e15 hJ
   rintro ρ1 h1 J1 hJ1 ⟨e0,e14,s,e17,hps,hsX,S⟩
   refine Wc e17 e14 ?_
   refine cD (fun hlt=> ?_) (fun hlt=> ?_)
   ·obtain⟨s,rfl⟩:∃t,s=t+1:=⟨s-1,by omega⟩
    have htl:s<X.length:=by omega
    have hD:L++(X.take (s+1)++(y::(X.drop (s+1)++R)))=(L++X.take s)++X[s]::([]++y::(X.drop (s+1)++R)):=by
     rw[l_t htl]
     simp only[l_q,l_j,l_k]
    have hD2:(L++X.take s)++y::([]++X[s]::(X.drop (s+1)++R))=L++(X.take s++(y::(X.drop s++R))):=by
     rw[X8 htl]
     simp only[l_q,l_j,l_k]
    obtain⟨g1,g2,_,g4⟩:=a1y (L++X.take s) [] (X.drop (s+1)++R) X[s] y
    have hl1:(L++X.take s).length=a+s:=by rw[l_m,x4];omega
    have hl2:(L++X.take s).length+1+([]:List Int).length=a+(s+1):=by rw[hl1,l_g];omega
    have hDl:(L++(X.take (s+1)++(y::(X.drop (s+1)++R)))).length=a+(s+1)+1+((X.length-(s+1))+R.length):=by simp only[l_m,l_f,x4,M2];omega
    rw[←hD,hl1]at g1
    rw[←hD,hl2]at g2
    rw[←hD,hl2,hl1,hD2]at g4
    obtain⟨bk,rfl⟩:=S.ownAt (by rw[hDl];omega)
    have r1:=F8 S g1
    have r2:=F8 S g2
    have w3:IntKind.i64.wrap (((a+(s+1):Nat):Int)-1)=((a+s:Nat):Int):=a1V (a:=a+(s+1)) (b:=1) (c:=a+s) (by omega) (by omega)
    refine Wa ?_
    refine dE ?_
    refine Wf e0 e17 w3 r1 r2 ?_
    refine v7 (i:=a+(s+1)) (x:=X[s]) zEl S (by rw[hDl];omega) rfl rfl rfl rfl ?_
    clear S r1 r2
    intro h S
    refine Wa ?_
    refine v7 (i:=a+s) (x:=y) zEl S (by rw[T3,hDl];omega) rfl rfl rfl rfl ?_
    clear S
    intro h S
    rw[g4]at S
    refine Wc e17 w3 ?_
    refine hJ1 _ _ ?_ ?_
    ·refine Wc e0 e14 ?_
     exact⟨s,rfl,by omega,by omega,S⟩
    ·refine Wb e17 ?_
     omega
   ·obtain rfl:s=p:=by omega
    refine Wa ?_
    refine hK _ _ ⟨X.take s++y::X.drop s,?_,a7T hXs (fun x hx=> ?_) (fun x hx=> ?_),?_⟩
    ·have:=List.perm_middle (a:=y) (l₁:=X.take s) (l₂:=X.drop s)
     rw[G0]at this
     exact this.trans (List.perm_append_comm (l₁:=[y]))
    ·obtain⟨i,hi,his,rfl⟩:=a3i hx
     have h1:=hp (s-1) (by omega) (by omega)
     have h2:=a5Q (Kf:=Kf) hXs (i:=i) (j:=s-1) (by omega) (by omega)
     have h3:=hxY _ (l_v hi)
     unfold Rk
     omega
    ·obtain⟨i,hi,his,rfl⟩:=a0i hx
     have h1:=hq (by omega)
     have h2:=a5Q (Kf:=Kf) hXs (i:=s) (j:=i) hi his
     exact .inl (by omega)
    ·simpa only[l_q,l_j]using S
end
end
end Go.Proofs.YtjagmebglhbdkaaGreat.MX
