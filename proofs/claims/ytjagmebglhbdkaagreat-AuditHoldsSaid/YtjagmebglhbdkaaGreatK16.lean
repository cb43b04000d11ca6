import Derived.Test.YtjagmebglhbdkaaGreatK14
import Derived.Test.YtjagmebglhbdkaaGreatK15
namespace Go.Proofs.YtjagmebglhbdkaaGreat.MX
open Go Go.Proofs
set_option linter.unusedSimpArgs false
set_option linter.unusedVariables false
section
set_option maxHeartbeats 8000000
theorem a8u{Kf:Int→Nat}{X Y:List Int}(hXs:X.Pairwise (Rk Kf))(hYs:Y.Pairwise (Rk Kf))(hXY:∀x∈X,∀y∈Y,x<y){s k:Nat}
  (hA:∀(h1:0<s) (h2:s≤X.length) (h3:k<Y.length),Kf Y[k]≤Kf (X[s-1]'(by omega))) (hB:∀(h1:s<X.length) (h2:0<k) (h3:k≤Y.length),Kf X[s]<Kf (Y[k-1]'(by omega))) (hsX:s≤X.length) (hkY:k≤Y.length) {Z1 Z2:List Int}
  (p1:Z1.Perm (X.take s++Y.take k)) (p2:Z2.Perm (X.drop s++Y.drop k)) (s1:Z1.Pairwise (Rk Kf)) (s2:Z2.Pairwise (Rk Kf)):(Z1++Z2).Perm (X++Y)∧(Z1++Z2).Pairwise (Rk Kf):=by
 constructor
 ·have e:X++Y=X.take s++(X.drop s++(Y.take k++Y.drop k)):=by rw[←l_q,G0,G0]
  rw[e]
  refine(p1.append p2).trans ?_
  rw[l_q]
  refine List.Perm.append_left _ ?_
  rw[←l_q,←l_q]
  exact List.Perm.append_right _ List.perm_append_comm
 ·rw[a1o]
  refine⟨s1,s2,fun u hu v hv=> ?_⟩
  rcases List.mem_append.1 (p1.mem_iff.1 hu)with hu|hu
  ·obtain⟨i,hi,his,rfl⟩:=a3i hu
   rcases List.mem_append.1 (p2.mem_iff.1 hv)with hv|hv
   ·obtain⟨j,hj,hjs,rfl⟩:=a0i hv
    exact List.pairwise_iff_getElem.1 hXs i j hi hj (by omega)
   ·obtain⟨j,hj,hjs,rfl⟩:=a0i hv
    have h1:=hA (by omega) hsX (by omega)
    have h2:=a5Q (Kf:=Kf) hXs (i:=i) (j:=s-1) (by omega) (by omega)
    have h3:=a5Q (Kf:=Kf) hYs (i:=k) (j:=j) hj hjs
    have h4:=hXY _ (l_v hi) _ (l_v hj)
    unfold Rk
    omega
  ·obtain⟨i,hi,his,rfl⟩:=a3i hu
   rcases List.mem_append.1 (p2.mem_iff.1 hv)with hv|hv
   ·obtain⟨j,hj,hjs,rfl⟩:=a0i hv
    have h1:=hB (by omega) (by omega) hkY
    have h2:=a5Q (Kf:=Kf) hYs (i:=i) (j:=k-1) (by omega) (by omega)
    have h3:=a5Q (Kf:=Kf) hXs (i:=s) (j:=j) hj hjs
    exact .inl (by omega)
   ·obtain⟨j,hj,hjs,rfl⟩:=a0i hv
    exact List.pairwise_iff_getElem.1 hYs i j hi hj (by omega)
section
variable{h0 h:c9}{l:List HP}{Kf:Int→Nat}{dom:Int→Prop}{fv:Value}{A:Option Addr}{n c:Nat}
theorem b3C(hcmp:b0T fv Kf dom h0 A n c l)(hs:n<1000000)(X Y:List Int)(hX2:2≤X.length)(hY2:2≤Y.length)(ih:∀X' Y':List Int,X'.length+Y'.length<X.length+Y.length→a6K fv Kf dom h0 A n c l X' Y'):a6K fv Kf dom h0 A n c l X Y:=by
 intro L R h a m b hn ha hm hb hX hY hXs hYs hXY hdX hdY S
 have hnl:n=L.length+(X.length+(Y.length+R.length)):=by rw[hn];simp only[l_m]
 have hdW:∀i,i<X.length+Y.length→dom ((X++Y).getD i 0):=by
  intro i hi
  rw[l_s,l_r (by rw[l_m];exact hi),Option.getD_some]
  rcases List.mem_append.1 (l_v (l:=X++Y) (by rw[l_m];exact hi))with h|h
  ·exact hdX _ h
  ·exact hdY _ h
 have hWX:∀i (hi:i<X.length),(X++Y).getD i 0=X[i]:=fun i hi=>by rw[l_s,List.getElem?_append_left hi,l_r hi];rfl
 have hWY:∀i (hi:i<Y.length),(X++Y).getD (X.length+i) 0=Y[i]:=fun i hi=>by rw[l_s,a8x (by omega),Nat.add_sub_cancel_left,l_r hi];rfl
 have hDW:∀i,i<X.length+Y.length→(L++(X++(Y++R)))[a+i]? =some ((X++Y).getD i 0):=by
  intro i hi
  rw[a8x (by omega),show a+i-L.length=i by omega,←l_q,List.getElem?_append_left (by rw[l_m];exact hi),l_s,l_r (by rw[l_m];exact hi),Option.getD_some]
 obtain⟨M,hM⟩:∃M,(X.length+Y.length)/2=M:=⟨_,rfl⟩
 have w0:=a1V (a:=m) (b:=a) (c:=X.length) (by omega) (by omega)
 have w1:=a1V (a:=b) (b:=m) (c:=Y.length) (by omega) (by omega)
 have hX2':¬(X.length:Int)=1:=by omega
 have hY2':¬(Y.length:Int)=1:=by omega
 have wm:=b5d (i:=a) (j:=b) (by omega)
 rw[show(a+b)/2=a+M by omega]at wm
 have wn:=a3G (a:=a+M) (b:=m) (c:=a+(M+m)) (by omega) (by omega)
 refine EN i232.eq_1 fun K hK=> ?_
 refine Wh @i232.eq_1 w0 w1 hX2' hY2' wm wn ?_
 refine cC (fun ρ' h'=>h'=h∧ρ' 0= .slice A n c∧ρ' 1= .int .i64 a∧ρ' 2= .int .i64 m∧ρ' 3= .int .i64 b∧ρ' 4=fv∧ρ' 18= .int .i64 ((a+M:Nat):Int)∧ρ' 19= .int .i64 ((a+(M+m):Nat):Int)∧
  ∃u0 r0:Nat,ρ' 20= .int .i64 ((a+u0:Nat):Int)∧ρ' 21= .int .i64 ((a+r0:Nat):Int)∧u0≤r0∧r0≤X.length∧r0≤M∧M≤Y.length+u0∧(u0=0∨M=Y.length+u0)∧(r0=X.length∨r0=M)) ?_ ?_ ?_
 ·intro hb1 J hJ
  have hgt:((a+M:Nat):Int)<m:=s7 hb1
  have w2:=a1V (a:=a+(M+m)) (b:=b) (c:=a+(M-Y.length)) (by omega) (by omega)
  refine Wb w2 ?_
  refine hJ _ _ ?_
  refine Wa ?_
  exact⟨M-Y.length,M,rfl,rfl,by omega,by omega,by omega,by omega,by omega,by omega⟩
 ·intro hb1 J hJ
  have hgt:¬((a+M:Nat):Int)<m:=y7 hb1
  refine Wa ?_
  refine hJ _ _ ?_
  refine Wa ?_
  exact⟨0,X.length,rfl,congrArg (Value.int .i64) (by omega),by omega,by omega,by omega,by omega,by omega,by omega⟩
 clear w0 w1 wm wn
 rintro ρ h1 ⟨e,e0,e1,e2,e3,e4,e18,e19,u0,r0,e20,e21,hur,hrX,hrM,hMu,hu0,hr0⟩
 subst e
 have w1:IntKind.i64.wrap (((a+(M+m):Nat):Int)-1)=((a+(M+m)-1:Nat):Int):=a1V (a:=a+(M+m)) (b:=1) (c:=a+(M+m)-1) (by omega) (by omega)
 refine Wc e19 w1 ?_
 refine a1q (fun ρ' h'=>ρ' 0= .slice A n c∧ρ' 1= .int .i64 a∧ρ' 2= .int .i64 m∧ρ' 3= .int .i64 b∧ρ' 4=fv∧ρ' 18= .int .i64 ((a+M:Nat):Int)∧ρ' 19= .int .i64 ((a+(M+m):Nat):Int)∧
  (∃s:Nat,ρ' 20= .int .i64 ((a+s:Nat):Int)∧u0≤s∧s≤r0∧(s=u0∨(0<s∧¬Kf ((X++Y).getD (s-1) 0)<Kf ((X++Y).getD (M+X.length-s) 0)))∧(s=r0∨Kf ((X++Y).getD s 0)<Kf ((X++Y).getD (M+X.length-1-s) 0)))∧
  St h0 h' (i4 i6 1 3 (.slice A n c) (L++(X++(Y++R)))::l)) ?_ ?_
 ·intro J0 hJ0
  refine lI (fun ρ' h'=>ρ' 0= .slice A n c∧ρ' 1= .int .i64 a∧ρ' 2= .int .i64 m∧ρ' 3= .int .i64 b∧ρ' 4=fv∧ρ' 18= .int .i64 ((a+M:Nat):Int)∧ρ' 19= .int .i64 ((a+(M+m):Nat):Int)∧ρ' 22= .int .i64 ((a+(M+m)-1:Nat):Int)∧
   ∃u w:Nat,ρ' 20= .int .i64 ((a+u:Nat):Int)∧ρ' 21= .int .i64 ((a+w:Nat):Int)∧u0≤u∧u≤w∧w≤r0∧(u=u0∨(0<u∧¬Kf ((X++Y).getD (u-1) 0)<Kf ((X++Y).getD (M+X.length-u) 0)))∧(w=r0∨Kf ((X++Y).getD w 0)<Kf ((X++Y).getD (M+X.length-1-w) 0))∧
   St h0 h' (i4 i6 1 3 (.slice A n c) (L++(X++(Y++R)))::l)) (fun ρ' _=>(iv (ρ' 21)).toNat-(iv (ρ' 20)).toNat) ?_ ?_
  ·refine Wi e0 e1 e2 e3 e4 e18 e19 (Pc e20 e21) ?_
   exact⟨u0,r0,rfl,rfl,by omega,by omega,by omega,.inl rfl,.inl rfl,S⟩
  ·clear S e0 e1 e2 e3 e4 e18 e19 e20 e21
   rintro ρ1 h2 J hJ ⟨e0,e1,e2,e3,e4,e18,e19,e22,u,w,e20,e21,hu,huw,hwr,hpu,hpw,S⟩
   refine Wc e20 e21 ?_
   refine cD (fun hlt=> ?_) (fun hlt=> ?_)
   ·have hw:=b5d (i:=a+u) (j:=a+w) (by omega)
    obtain⟨e,he⟩:∃e,(a+u+(a+w))/2=a+e:=⟨(a+u+(a+w))/2-a,by omega⟩
    rw[he]at hw
    have hue:u≤e∧e<w:=by omega
    have w2:=a1V (a:=a+(M+m)-1) (b:=a+e) (c:=a+(M+X.length-1-e)) (by omega) (by omega)
    have g1:=hDW (M+X.length-1-e) (by omega)
    have g2:=hDW e (by omega)
    obtain⟨bk,rfl⟩:=S.ownAt (by simp only[l_m];omega)
    have rx:∀K u,j8 (fun h'=>St h0 h' (i4 i6 1 3 (.slice (some ⟨bk,0,none⟩) n c) (L++(X++(Y++R)))::l)) (fun h'=>rd1 h' (.pointer (some ⟨bk,(a+(M+X.length-1-e))*1,none⟩))) K u=D7 (some (.int .i64 ((X++Y).getD (M+X.length-1-e) 0))) K ⟨⟩:=fun K u=>E7 S fun h' s=>F8 s g1
    have ry:∀K u,j8 (fun h'=>St h0 h' (i4 i6 1 3 (.slice (some ⟨bk,0,none⟩) n c) (L++(X++(Y++R)))::l)) (fun h'=>rd1 h' (.pointer (some ⟨bk,(a+e)*1,none⟩))) K u=D7 (some (.int .i64 ((X++Y).getD e 0))) K ⟨⟩:=fun K u=>E7 S fun h' s=>F8 s g2
    refine Wd e20 e21 hw ?_
    refine Z8 S ?_
    refine Wg e0 e4 e22 w2 rx ry ?_
    refine hcmp _ _ (hdW _ (by omega)) (hdW _ (by omega)) S fun v h'' hv S=> ?_
    by_cases hc:v<0
    ·have hd:=dT hc
     refine Wb hd ?_
     refine hJ _ _ ?_ ?_
     ·refine Wi e0 e1 e2 e3 e4 e18 e19 (Pc e20 e22) ?_
      exact⟨u,e,rfl,rfl,hu,by omega,by omega,hpu,.inr (hv.1 hc),S⟩
     ·refine Wc e20 e21 ?_
      omega
    ·have hd:=dF hc
     have w3:IntKind.i64.wrap (((a+e:Nat):Int)+1)=((a+(e+1):Nat):Int):=a3G (a:=a+e) (b:=1) (by omega) (by omega)
     refine Wc hd w3 ?_
     refine hJ _ _ ?_ ?_
     ·refine Wi e0 e1 e2 e3 e4 e18 e19 (Pc e21 e22) ?_
      exact⟨e+1,w,rfl,rfl,by omega,by omega,hwr,.inr ⟨by omega,by rw[a4E,show M+X.length-(e+1)=M+X.length-1-e by omega];exact fun hx=>hc (hv.2 hx)⟩,hpw,S⟩
     ·refine Wc e20 e21 ?_
      omega
   ·obtain rfl:u=w:=by omega
    refine Wa ?_
    refine hJ0 _ _ ⟨e0,e1,e2,e3,e4,e18,e19,⟨u,e20,hu,hwr,hpu,hpw⟩,S⟩<;>(refine Wa ?_)
 clear S e0 e1 e2 e3 e4 e18 e19 e20 e21 w1 h1
 rintro ρ h1 ⟨e0,e1,e2,e3,e4,e18,e19,⟨s,e20,hus,hsr,hP1,hP2⟩,S⟩
 have hsX:s≤X.length:=by omega
 have hsM:s≤M:=by omega
 have hkY:M-s≤Y.length:=by omega
 have hA:∀(h1:0<s) (h2:s≤X.length) (h3:M-s<Y.length),Kf Y[M-s]≤Kf (X[s-1]'(by omega)):=by
  intro q1 q2 q3
  rcases hP1 with hP1|hP1
  ·omega
  ·have h4:=hP1.2
   rw[hWX (s-1) (by omega),show M+X.length-s=X.length+(M-s) by omega,hWY _ q3]at h4
   omega
 have hB:∀(h1:s<X.length) (h2:0<M-s) (h3:M-s≤Y.length),Kf X[s]<Kf (Y[M-s-1]'(by omega)):=by
  intro q1 q2 q3
  rcases hP2 with hP2|hP2
  ·omega
  ·rw[hWX s q1,show M+X.length-1-s=X.length+(M-s-1) by omega,hWY _ (by omega)]at hP2
   exact hP2
 have hX1l:(X.take s).length=s:=by rw[x4];omega
 have hX2l:(X.drop s).length=X.length-s:=M2
 have hY1l:(Y.take (M-s)).length=M-s:=by rw[x4];omega
 have hY2l:(Y.drop (M-s)).length=Y.length-(M-s):=M2
 have hXe:X=X.take s++X.drop s:=(G0 _ _).symm
 have hYe:Y=Y.take (M-s)++Y.drop (M-s):=(G0 _ _).symm
 have fin:=fun {Z1 Z2:List Int}=>a8u (Z1:=Z1) (Z2:=Z2) hXs hYs hXY hA hB hsX hkY
 have wE:=a1V (a:=a+(M+m)) (b:=a+s) (c:=a+(M+X.length-s)) (by omega) (by omega)
 refine b0F (fun ρ' h'=>ρ' 2= .int .i64 m∧ρ' 0= .slice A n c∧ρ' 1= .int .i64 a∧ρ' 3= .int .i64 b∧ρ' 4=fv∧ρ' 18= .int .i64 ((a+M:Nat):Int)∧ρ' 20= .int .i64 ((a+s:Nat):Int)∧ρ' 24= .int .i64 ((a+(M+X.length-s):Nat):Int)∧St h0 h' (i4 i6 1 3 (.slice A n c) (L++(X++(Y++R)))::l)) ?_ ?_
 ·intro J hJ
  refine Wd e19 e20 wE ?_
  refine hJ _ _ ?_
  refine Wh e0 e1 e2 e3 e4 e18 e20 ?_
  exact S
 clear S e0 e1 e2 e3 e4 e18 e19 e20 hP1 hP2
 rintro ρ h1 ⟨e2,e0,e1,e3,e4,e18,e20,e24,S⟩
 refine b0F (fun ρ' h'=>ρ' 0= .slice A n c∧ρ' 1= .int .i64 a∧ρ' 3= .int .i64 b∧ρ' 4=fv∧ρ' 18= .int .i64 ((a+M:Nat):Int)∧ρ' 20= .int .i64 ((a+s:Nat):Int)∧ρ' 24= .int .i64 ((a+(M+X.length-s):Nat):Int)∧St h0 h' (i4 i6 1 3 (.slice A n c) (L++(X.take s++(Y.take (M-s)++(X.drop s++(Y.drop (M-s)++R)))))::l)) ?_ ?_
 ·intro J hJ
  by_cases c1:((a+s:Nat):Int)<m
  ·by_cases c2:(m:Int)<((a+(M+X.length-s):Nat):Int)
   ·refine Wh e20 e2 e24 c1 c2 e0 e4 ?_
    have S1:St h0 h1 (i4 i6 1 3 (.slice A n c) ((L++X.take s)++(X.drop s++(Y.take (M-s)++(Y.drop (M-s)++R))))::l):=by
     have e:(L++X.take s)++(X.drop s++(Y.take (M-s)++(Y.drop (M-s)++R)))=L++(X++(Y++R)):=by
      rw[←l_q (Y.take _),G0,l_q L,←l_q (X.take s),G0]
     rw[e]
     exact S
    refine cI (b7r (L++X.take s) (X.drop s) (Y.take (M-s)) (Y.drop (M-s)++R) (by simp only[l_m,hX1l,hX2l,hY1l,hY2l];omega) (by rw[l_m,hX1l];omega) (by rw[l_m,hX1l,hX2l];omega) (by rw[hY1l];omega) (by omega) (by omega) hs S1) ?_
    clear S S1
    intro _ h S
    refine Wa ?_
    refine hJ _ _ ?_
    refine Wh e0 e1 e3 e4 e18 e20 e24 ?_
    simpa only[l_q]using S
   ·have hk0:M-s=0:=by omega
    refine Wf e20 e2 e24 c1 c2 ?_
    refine hJ _ _ ?_
    refine Wh e0 e1 e3 e4 e18 e20 e24 ?_
    rw[hk0,a2j,a4D,l_k,←l_q (X.take s),G0]
    exact S
  ·have hs0:s=X.length:=by omega
   refine We e20 e2 e24 c1 ?_
   refine hJ _ _ ?_
   refine Wh e0 e1 e3 e4 e18 e20 e24 ?_
   rw[hs0,C9,List.drop_length,l_k,←l_q (Y.take _),G0]
   exact S
 clear S e2 e0 e1 e3 e4 e18 e20 e24
 rintro ρ h1 ⟨e0,e1,e3,e4,e18,e20,e24,S⟩
 refine b0F (fun ρ' h'=>ρ' 0= .slice A n c∧ρ' 1= .int .i64 a∧ρ' 3= .int .i64 b∧ρ' 4=fv∧ρ' 18= .int .i64 ((a+M:Nat):Int)∧ρ' 20= .int .i64 ((a+s:Nat):Int)∧ρ' 24= .int .i64 ((a+(M+X.length-s):Nat):Int)∧∃Z1:List Int,Z1.Perm (X.take s++Y.take (M-s))∧Z1.Pairwise (Rk Kf)∧St h0 h' (i4 i6 1 3 (.slice A n c) (L++(Z1++(X.drop s++(Y.drop (M-s)++R))))::l)) ?_ ?_
 ·intro J hJ
  by_cases c1:(a:Int)<((a+s:Nat):Int)
  ·by_cases c2:((a+s:Nat):Int)<((a+M:Nat):Int)
   ·refine Wh e20 e1 e18 c1 c2 e0 e4 ?_
    refine cI (ih (X.take s) (Y.take (M-s)) (by omega) L (X.drop s++(Y.drop (M-s)++R)) (by simp only[l_m,hX1l,hX2l,hY1l,hY2l];omega) ha (by rw[hX1l];omega) (by rw[hX1l,hY1l];omega) (by omega) (by omega) (hXs.sublist (List.take_sublist _ _)) (hYs.sublist (List.take_sublist _ _)) (fun x hx y hy=>hXY x (a1O hx) y (a1O hy)) (fun x hx=>hdX x (a1O hx)) (fun y hy=>hdY y (a1O hy)) S) ?_
    clear S
    rintro _ h ⟨Z1,hz1,hz2,S⟩
    refine Wa ?_
    refine hJ _ _ ?_
    refine Wh e0 e1 e3 e4 e18 e20 e24 ?_
    exact⟨Z1,hz1,hz2,S⟩
   ·have hk0:M-s=0:=by omega
    refine Wf e20 e1 e18 c1 c2 ?_
    refine hJ _ _ ?_
    refine Wh e0 e1 e3 e4 e18 e20 e24 ?_
    refine⟨X.take s,?_,hXs.sublist (List.take_sublist _ _),?_⟩
    ·rw[hk0,a2j,D9]
    ·rw[hk0,a2j,l_k]at S
     rw[hk0]
     exact S
  ·have hs0:s=0:=by omega
   refine We e20 e1 e18 c1 ?_
   refine hJ _ _ ?_
   refine Wh e0 e1 e3 e4 e18 e20 e24 ?_
   refine⟨Y.take (M-s),?_,hYs.sublist (List.take_sublist _ _),?_⟩
   ·rw[hs0,a2j,l_k]
   ·have e:X.take s=[]:=by rw[hs0,a2j]
    rw[e,l_k]at S
    exact S
 clear S e0 e1 e3 e4 e18 e20 e24
 rintro ρ h1 ⟨e0,e1,e3,e4,e18,e20,e24,Z1,hz1,hz2,S⟩
 have hZ1l:Z1.length=M:=by rw[hz1.length_eq,l_m,hX1l,hY1l];omega
 have hfin:∀{Z2:List Int}{h':c9}{v:Value},Z2.Perm (X.drop s++Y.drop (M-s))→Z2.Pairwise (Rk Kf)→St h0 h' (i4 i6 1 3 (.slice A n c) ((L++Z1)++(Z2++R))::l)→K v h':=by
  intro Z2 h' v p2 s2 S
  obtain⟨f1,f2⟩:=fin hz1 p2 hz2 s2
  exact hK _ _ ⟨Z1++Z2,f1,f2,by simpa only[l_q]using S⟩
 have S1:St h0 h1 (i4 i6 1 3 (.slice A n c) ((L++Z1)++(X.drop s++(Y.drop (M-s)++R)))::l):=by simpa only[l_q]using S
 by_cases c1:((a+M:Nat):Int)<((a+(M+X.length-s):Nat):Int)
 ·by_cases c2:((a+(M+X.length-s):Nat):Int)<b
  ·refine Wh e18 e24 e3 c1 c2 e0 e4 ?_
   refine cI (ih (X.drop s) (Y.drop (M-s)) (by omega) (L++Z1) R (by simp only[l_m,hX2l,hY2l,hZ1l];omega) (by rw[l_m,hZ1l];omega) (by rw[l_m,hZ1l,hX2l];omega) (by rw[l_m,hZ1l,hX2l,hY2l];omega) (by omega) (by omega) (hXs.sublist (List.drop_sublist _ _)) (hYs.sublist (List.drop_sublist _ _)) (fun x hx y hy=>hXY x (List.mem_of_mem_drop hx) y (List.mem_of_mem_drop hy)) (fun x hx=>hdX x (List.mem_of_mem_drop hx)) (fun y hy=>hdY y (List.mem_of_mem_drop hy)) S1) ?_
   clear S S1
   rintro _ h ⟨Z2,hz3,hz4,S⟩
   refine Wa ?_
   exact hfin hz3 hz4 S
  ·have hy0:Y.drop (M-s)=[]:=List.drop_eq_nil_of_le (by omega)
   refine Wf e18 e24 e3 c1 c2 ?_
   refine hfin (Z2:=X.drop s) ?_ (hXs.sublist (List.drop_sublist _ _)) ?_
   ·rw[hy0,D9]
   ·rw[hy0,l_k]at S1
    exact S1
 ·have hx0:X.drop s=[]:=List.drop_eq_nil_of_le (by omega)
  refine We e18 e24 e3 c1 ?_
  refine hfin (Z2:=Y.drop (M-s)) ?_ (hYs.sublist (List.drop_sublist _ _)) ?_
  ·rw[hx0,l_k]
  ·rw[hx0,l_k]at S1
   exact S1
theorem a9o(hcmp:b0T fv Kf dom h0 A n c l)(hs:n<1000000):∀(N:Nat) (X Y:List Int),X.length+Y.length=N→a6K fv Kf dom h0 A n c l X Y:=by
 intro N
 induction N using Nat.strongRecOn with
 |ind N ih=>
  intro X Y hN
  match X,Y with
  | [x],Y=>exact b6T hcmp hs x Y
  | [],Y=>intro L R h a m b _ _ _ _ hX;simp at hX
  |x::x'::X,[]=>intro L R h a m b _ _ _ _ _ hY;simp at hY
  |x::x'::X,[y]=>exact b3B hcmp hs _ y (by simp)
  |x::x'::X,y::y'::Y=>exact b3C hcmp hs _ _ (by simp) (by simp) fun X' Y' hl=>ih _ (by rw[←hN];exact hl) X' Y' rfl
end
end
section
set_option maxHeartbeats 8000000
inductive SBl(Kf:Int→Nat)(B:Nat):List Int→List Int→Prop
 |last {Z W:List Int}:Z.Perm W→Z.Pairwise (Rk Kf)→W.length≤B→SBl Kf B Z W
 |cons {Z W D xs:List Int}:Z.Perm W→Z.Pairwise (Rk Kf)→W.length=B→SBl Kf B D xs→SBl Kf B (Z++D) (W++xs)
inductive FBl(Kf:Int→Nat)(B:Nat):List Int→List Int→Prop
 |nil:FBl Kf B [] []
 |snoc {Z W D xs:List Int}:FBl Kf B D xs→Z.Perm W→Z.Pairwise (Rk Kf)→W.length=B→FBl Kf B (D++Z) (xs++W)
section
variable{Kf:Int→Nat}{B:Nat}{D xs:List Int}
theorem FBl.app(hf:FBl Kf B D xs):∀{D' xs':List Int},SBl Kf B D' xs'→SBl Kf B (D++D') (xs++xs'):=by
 induction hf with
 |nil=>intro D' xs' h;exact h
 |snoc hf hp hs hl ih=>
  intro D' xs' h
  rw[l_q,l_q]
  exact ih (.cons hp hs hl h)
theorem FBl.len(hf:FBl Kf B D xs):D.length=xs.length:=by
 induction hf with
 |nil=>rfl
 |snoc hf hp hs hl ih=>rw[l_m,l_m,ih,hp.length_eq]
theorem SBl.len(hf:SBl Kf B D xs):D.length=xs.length:=by
 induction hf with
 |last hp hs hl=>exact hp.length_eq
 |cons hp hs hl h ih=>rw[l_m,l_m,ih,hp.length_eq]
theorem SBl.one(hf:SBl Kf B D xs)(hl:xs.length≤B):D.Perm xs∧D.Pairwise (Rk Kf):=by
 cases hf with
 |last hp hs _=>exact⟨hp,hs⟩
 | @cons Z W D' xs' hp hs hW h=>
  rw[l_m]at hl
  have h0:xs'=[]:=a7w (by omega)
  have h1:D'=[]:=a7w (by rw[h.len,h0];rfl)
  rw[h0,h1,D9,D9]
  exact⟨hp,hs⟩
theorem SBl.first(hf:SBl Kf B D xs)(hl:B<xs.length):∃Z W D' xs',D=Z++D'∧xs=W++xs'∧Z.Perm W∧Z.Pairwise (Rk Kf)∧W.length=B∧SBl Kf B D' xs':=by
 cases hf with
 |last hp hs h=>omega
 |cons hp hs hW h=>exact⟨_,_,_,_,rfl,rfl,hp,hs,hW,h⟩
theorem SBl.two(hf:SBl Kf B D xs)(hB:0<B)(hl:2*B≤xs.length):∃Z1 W1 Z2 W2 D' xs',D=Z1++(Z2++D')∧xs=W1++(W2++xs')∧Z1.Perm W1∧Z1.Pairwise (Rk Kf)∧W1.length=B∧Z2.Perm W2∧Z2.Pairwise (Rk Kf)∧W2.length=B∧SBl Kf B D' xs':=by
 obtain⟨Z1,W1,D1,x1,rfl,rfl,p1,s1,l1,h1⟩:=hf.first (by omega)
 rw[l_m]at hl
 by_cases e:x1.length=B
 ·obtain⟨p2,s2⟩:=h1.one (by omega)
  exact⟨Z1,W1,D1,x1,[],[],by simp,by simp,p1,s1,l1,p2,s2,e,.last (.refl _) .nil (by simp)⟩
 ·obtain⟨Z2,W2,D2,x2,rfl,rfl,p2,s2,l2,h2⟩:=h1.first (by omega)
  exact⟨Z1,W1,Z2,W2,D2,x2,rfl,rfl,p1,s1,l1,p2,s2,l2,h2⟩
end
section
variable{h0 h:c9}{l:List HP}{Kf:Int→Nat}{dom:Int→Prop}{fv:Value}{A:Option Addr}{n c:Nat}
theorem b7x(hcmp:b0T fv Kf dom h0 A n c l)(hs:n<1000000)(xs:List Int)(hn:n=xs.length)(hx:xs.Pairwise (· < ·))(hd:∀x∈xs,dom x)(S:St h0 h (i4 i6 1 3 (.slice A n c) xs::l)):
  d8 Tryz.prog 219 [.slice A n c,.int .i64 n,fv] h fun v h'=>∃Z,Z.Perm xs∧Z.Pairwise (Rk Kf)∧St h0 h' (i4 i6 1 3 (.slice A n c) Z::l):=by
 refine EN i219.eq_1 fun K hK=>Wa ?_
 refine a1q (fun ρ' h'=>ρ' 0= .slice A n c∧ρ' 1= .int .i64 n∧ρ' 2=fv∧ρ' 6= .int .i64 20∧∃D x1 x2:List Int,ρ' 7= .int .i64 x1.length∧FBl Kf 20 D x1∧xs=x1++x2∧x2.length<20∧St h0 h' (i4 i6 1 3 (.slice A n c) (D++x2)::l)) ?_ ?_
 ·intro J0 hJ0
  refine lI (fun ρ' h'=>ρ' 0= .slice A n c∧ρ' 1= .int .i64 n∧ρ' 2=fv∧ρ' 6= .int .i64 20∧∃D x1 x2:List Int,ρ' 7= .int .i64 x1.length∧ρ' 8= .int .i64 ((x1.length+20:Nat):Int)∧FBl Kf 20 D x1∧xs=x1++x2∧St h0 h' (i4 i6 1 3 (.slice A n c) (D++x2)::l)) (fun ρ' _=>n+20-(iv (ρ' 8)).toNat) ?_ ?_
  ·(refine Wa ?_;try exact⟨⟩)
   exact⟨[],[],xs,rfl,rfl,.nil,rfl,S⟩
  ·clear S
   rintro ρ h J hJ ⟨e0,e1,e2,e6,D,x1,x2,e7,e8,hF,hxe,S⟩
   have hnl:n=x1.length+x2.length:=by rw[hn,hxe,l_m]
   have hDl:=hF.len
   (refine Wc e8 e1 ?_;try exact⟨⟩)
   refine cD (fun hle=> ?_) (fun hle=> ?_)
   ·have hx2:x2=x2.take 20++x2.drop 20:=(G0 _ _).symm
    have hl20:(x2.take 20).length=20:=by rw[x4];omega
    have w1:IntKind.i64.wrap (((x1.length+20:Nat):Int)+20)=((x1.length+20+20:Nat):Int):=a3G (a:=x1.length+20) (b:=20) rfl (by omega)
    (refine We e0 e7 e8 e2 ?_;try exact⟨⟩)
    have hsub:(x2.take 20).Sublist xs:=by rw[hxe];exact(List.take_sublist _ _).trans (List.sublist_append_right _ _)
    rw[hx2]at S
    refine cI (a7s hcmp D (x2.take 20) (x2.drop 20) (by rw[←hx2,l_m,hDl];exact hnl) hDl.symm (by rw[hl20,hDl]) hs (hx.sublist hsub) (fun x hx'=>hd x (hsub.subset hx')) S) ?_
    clear S
    rintro _ h ⟨M',hp,hso,S⟩
    (refine Wd e8 e6 w1 ?_;try exact⟨⟩)
    refine hJ _ _ ?_ ?_
    ·(refine We e0 e1 e2 e6 ?_;try exact⟨⟩)
     refine⟨D++M',x1++x2.take 20,x2.drop 20,by rw[l_m,hl20],by rw[l_m,hl20],.snoc hF hp hso hl20,by rw[l_q,←hx2];exact hxe,by rw[l_q];exact S⟩
    ·(refine Wb e8 ?_;try exact⟨⟩)
     omega
   ·(refine Wa ?_;try exact⟨⟩)
    refine hJ0 _ _ ⟨e0,e1,e2,e6,D,x1,x2,e7,hF,hxe,by omega,S⟩<;>(refine Wa ?_;try exact⟨⟩)
 clear S
 rintro ρ h ⟨e0,e1,e2,e6,D,x1,x2,e7,hF,hxe,hl20,S⟩
 have hnl:n=x1.length+x2.length:=by rw[hn,hxe,l_m]
 have hDl:=hF.len
 (refine We e0 e7 e1 e2 ?_;try exact⟨⟩)
 have hx2s:x2.Sublist xs:=by rw[hxe];exact List.sublist_append_right _ _
 refine cI (a7s hcmp D x2 [] (by rw[D9,l_m,hDl];exact hnl) hDl.symm (by rw[hDl];exact hnl) hs (hx.sublist hx2s) (fun x hx'=>hd x (hx2s.subset hx')) (by rw[D9];exact S)) ?_
 clear S
 rintro _ h ⟨M',hp,hso,S⟩
 rw[D9]at S
 have hS0:SBl Kf 20 (D++M') xs:=by rw[hxe];exact hF.app (.last hp hso (by omega))
 generalize D++M'=D0 at S hS0
 (refine Wa ?_;try exact⟨⟩)
 refine lI (fun ρ' h'=>ρ' 0= .slice A n c∧ρ' 1= .int .i64 n∧ρ' 2=fv∧∃(B:Nat) (D:List Int),ρ' 6= .int .i64 B∧0<B∧B<2000000∧SBl Kf B D xs∧St h0 h' (i4 i6 1 3 (.slice A n c) D::l)) (fun ρ' _=>n-(iv (ρ' 6)).toNat) ?_ ?_
 ·(refine We e0 e1 e2 e6 ?_;try exact⟨⟩)
  exact⟨20,D0,rfl,by omega,by omega,hS0,S⟩
 clear S hS0 e0 e1 e2 e6 e7 hF hxe hl20 hnl hDl hx2s hp hso x1 x2
 rintro ρ h J hJ ⟨e0,e1,e2,B,D,e6,hB,hB2,hSB,S⟩
 (refine Wc e6 e1 ?_;try exact⟨⟩)
 refine cD (fun hlt=> ?_) (fun hlt=> ?_)
 case refine_2=>
  obtain⟨p1,s1⟩:=hSB.one (by omega)
  (refine Wa ?_;try exact⟨⟩)
  exact hK _ _ ⟨D,p1,s1,S⟩
 have wB:IntKind.i64.wrap (2*(B:Int))=((2*B:Nat):Int):=by rw[show(2:Int)*B=((2*B:Nat):Int) by omega];exact b1I (by omega)
 have wB2:IntKind.i64.wrap ((B:Int)*2)=((2*B:Nat):Int):=by rw[show(B:Int)*2=((2*B:Nat):Int) by omega];exact b1I (by omega)
 (refine Wc e6 wB ?_;try exact⟨⟩)
 refine a1q (fun ρ' h'=>ρ' 0= .slice A n c∧ρ' 1= .int .i64 n∧ρ' 2=fv∧ρ' 6= .int .i64 B∧∃Dn xn Dr xr:List Int,ρ' 7= .int .i64 xn.length∧FBl Kf (2*B) Dn xn∧SBl Kf B Dr xr∧xs=xn++xr∧xr.length<2*B∧St h0 h' (i4 i6 1 3 (.slice A n c) (Dn++Dr)::l)) ?_ ?_
 ·intro J0 hJ0
  refine lI (fun ρ' h'=>ρ' 0= .slice A n c∧ρ' 1= .int .i64 n∧ρ' 2=fv∧ρ' 6= .int .i64 B∧∃Dn xn Dr xr:List Int,ρ' 7= .int .i64 xn.length∧ρ' 8= .int .i64 ((xn.length+2*B:Nat):Int)∧FBl Kf (2*B) Dn xn∧SBl Kf B Dr xr∧xs=xn++xr∧St h0 h' (i4 i6 1 3 (.slice A n c) (Dn++Dr)::l)) (fun ρ' _=>n+2*B-(iv (ρ' 8)).toNat) ?_ ?_
  ·(refine We e0 e1 e2 e6 ?_;try exact⟨⟩)
   exact⟨[],[],D,xs,rfl,congrArg (Value.int .i64) (by simp),.nil,hSB,rfl,S⟩
  ·clear S e0 e1 e2 e6
   rintro ρ h J1 hJ1 ⟨e0,e1,e2,e6,Dn,xn,Dr,xr,e7,e8,hF,hR,hxe,S⟩
   have hnl:n=xn.length+xr.length:=by rw[hn,hxe,l_m]
   have hDl:=hF.len
   (refine Wc e8 e1 ?_;try exact⟨⟩)
   refine cD (fun hle=> ?_) (fun hle=> ?_)
   ·obtain⟨Z1,W1,Z2,W2,D',x',rfl,rfl,p1,s1,l1,p2,s2,l2,hR'⟩:=hR.two hB (by omega)
    have hl':=hR'.len
    have q1:=p1.length_eq
    have q2:=p2.length_eq
    simp only[l_m]at hnl
    have w1:=a3G (a:=xn.length) (b:=B) rfl (by omega)
    have w3:=a3G (a:=xn.length+2*B) (b:=2*B) rfl (by omega)
    have hsub:(W1++W2).Sublist xs:=by
     rw[hxe,←l_q W1]
     exact(List.sublist_append_left _ _).trans (List.sublist_append_right _ _)
    have hpw:=hx.sublist hsub
    rw[a1o]at hpw
    (refine Wg e0 e7 e8 e2 e6 w1 ?_;try exact⟨⟩)
    refine cI (a9o hcmp hs _ Z1 Z2 rfl Dn D' (by simp only[l_m];omega) hDl.symm (by omega) (by omega) (by omega) (by omega) s1 s2 (fun x hx1 y hy1=>hpw.2.2 x (p1.mem_iff.1 hx1) y (p2.mem_iff.1 hy1)) (fun x hx1=>hd x (hsub.subset (Y0 _ (p1.mem_iff.1 hx1)))) (fun x hx1=>hd x (hsub.subset (a2l _ (p2.mem_iff.1 hx1)))) S) ?_
    clear S
    rintro _ h ⟨Z,hz1,hz2,S⟩
    (refine We e8 e6 wB w3 ?_;try exact⟨⟩)
    refine hJ1 _ _ ?_ ?_
    ·(refine We e0 e1 e2 e6 ?_;try exact⟨⟩)
     refine⟨Dn++Z,xn++(W1++W2),D',x',congrArg (Value.int .i64) (by simp only[l_m];omega),congrArg (Value.int .i64) (by simp only[l_m];omega),.snoc hF (hz1.trans (p1.append p2)) hz2 (by rw[l_m];omega),hR',by rw[hxe];simp only[l_q],by simpa only[l_q]using S⟩
    ·(refine Wb e8 ?_;try exact⟨⟩)
     omega
   ·(refine Wa ?_;try exact⟨⟩)
    refine hJ0 _ _ ⟨e0,e1,e2,e6,Dn,xn,Dr,xr,e7,hF,hR,hxe,by omega,S⟩<;>(refine Wa ?_;try exact⟨⟩)
 clear S e0 e1 e2
 have o6:=e6
 clear e6
 rintro ρ h ⟨e0,e1,e2,e6,Dn,xn,Dr,xr,e7,hF,hR,hxe,hxr,S⟩
 have hnl:n=xn.length+xr.length:=by rw[hn,hxe,l_m]
 have hDl:=hF.len
 have w1:=a3G (a:=xn.length) (b:=B) rfl (by omega)
 have hend:∀{ρ':Env}{h':c9}{Z:List Int},ρ' 0= .slice A n c→ρ' 1= .int .i64 n→ρ' 2=fv→ρ' 6= .int .i64 ((2*B:Nat):Int)→Z.Perm xr→Z.Pairwise (Rk Kf)→St h0 h' (i4 i6 1 3 (.slice A n c) (Dn++Z)::l)→J ρ' h':=by
  intro ρ' h' Z p0 p1 p2 p6 hz1 hz2 S
  refine hJ _ _ ⟨p0,p1,p2,2*B,Dn++Z,p6,by omega,by omega,by rw[hxe];exact hF.app (.last hz1 hz2 (by omega)),S⟩ ?_
  rw[p6,o6]
  simp only[iv]
  omega
 by_cases hm:((xn.length+B:Nat):Int)<n
 ·obtain⟨Z1,W1,D',x',rfl,rfl,p1,s1,l1,hR'⟩:=hR.first (by omega)
  rw[l_m]at hxr hnl
  obtain⟨p2,s2⟩:=hR'.one (by omega)
  have q1:=p1.length_eq
  have q2:=p2.length_eq
  have hsub:(W1++x').Sublist xs:=by rw[hxe];exact List.sublist_append_right _ _
  have hpw:=hx.sublist hsub
  rw[a1o]at hpw
  (refine Wh e7 e6 w1 hm e1 e0 e2 ?_;try exact⟨⟩)
  refine cI (a9o hcmp hs _ Z1 D' rfl Dn [] (by simp only[l_m,l_g];omega) hDl.symm (by omega) (by omega) (by omega) (by omega) s1 s2 (fun x hx1 y hy1=>hpw.2.2 x (p1.mem_iff.1 hx1) y (p2.mem_iff.1 hy1)) (fun x hx1=>hd x (hsub.subset (Y0 _ (p1.mem_iff.1 hx1)))) (fun x hx1=>hd x (hsub.subset (a2l _ (p2.mem_iff.1 hx1)))) (by rw[D9];exact S)) ?_
  clear S
  rintro _ h ⟨Z,hz1,hz2,S⟩
  rw[D9]at S
  (refine Wc e6 wB2 ?_;try exact⟨⟩)
  exact hend (by(refine Wb e0 ?_;try exact⟨⟩)) (by(refine Wb e1 ?_;try exact⟨⟩)) (by(refine Wb e2 ?_;try exact⟨⟩)) (by(refine Wa ?_;try exact⟨⟩)) (hz1.trans (p1.append p2)) hz2 S
 ·obtain⟨p2,s2⟩:=hR.one (by omega)
  (refine Wg e7 e6 w1 hm e1 wB2 ?_;try exact⟨⟩)
  exact hend (by(refine Wb e0 ?_;try exact⟨⟩)) (by(refine Wb e1 ?_;try exact⟨⟩)) (by(refine Wb e2 ?_;try exact⟨⟩)) (by(refine Wa ?_;try exact⟨⟩)) p2 s2 S
theorem a8o(hcmp:b0T fv Kf dom h0 A n c l)(hs:n<1000000)(xs:List Int)(hn:n=xs.length)(hx:xs.Pairwise (· < ·))(hd:∀x∈xs,dom x)(S:St h0 h (i4 i6 1 3 (.slice A n c) xs::l)):
  d8 Tryz.prog 185 [.slice A n c,fv] h fun v h'=>∃Z,Z.Perm xs∧Z.Pairwise (Rk Kf)∧St h0 h' (i4 i6 1 3 (.slice A n c) Z::l):=by
 refine EN i185.eq_1 fun K hK=>Wa ?_
 refine cI (b7x hcmp hs xs hn hx hd S) ?_
 intro v h' hq
 refine Wa ?_
 exact hK _ _ hq
end
end
end Go.Proofs.YtjagmebglhbdkaaGreat.MX
