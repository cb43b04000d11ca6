import Derived.Test.YtjagmebglhbdkaaGreatK18
import Derived.Test.YtjagmebglhbdkaaGreatK14
namespace Go.Proofs.YtjagmebglhbdkaaGreat.MX
open Go Go.Proofs
set_option linter.unusedSimpArgs false
set_option linter.unusedVariables false
section
set_option maxHeartbeats 8000000
def c4d(b:Bool):List Value:=[.bool b]
theorem a7u(b:Bool):(c4d b).length=1:=rfl
def a0u(n:Nat)(T:List Int):List Bool:=(List.range n).map fun i:Nat=>decide ((i:Int)∈T)
theorem a3P(n:Nat)(T:List Int):(a0u n T).length=n:=by simp[a0u]
theorem b3p(n:Nat):a0u n []=List.replicate n false:=by
 apply List.ext_getElem
 ·simp[a0u]
 ·intro i h1 h2;simp[a0u]
theorem b3q{n k:Nat}(T:List Int)(hk:k<n):(a0u n T).set k true=a0u n (T++ [(k:Int)]):=by
 apply List.ext_getElem
 ·simp[a0u]
 ·intro i h1 h2
  simp only[a0u,List.getElem_set,Y9,List.getElem_range,l_y,U1]
  by_cases e:k=i
  ·subst e;simp
  ·rw[if_neg e]
   have:¬(i:Int)=k:=by omega
   simp[this]
def P6(Kf:Int→Nat)(T:List Int)(i:Nat)(B:Int):Prop:=
 (B= -1∧∀k,k<i→(k:Int)∈T)∨∃b:Nat,B=b∧b<i∧(b:Int)∉T∧∀k,k<i→(k:Int)∉T→k=b∨Rk Kf b k
theorem P6.zero(Kf:Int→Nat)(T:List Int):P6 Kf T 0 (-1):= .inl ⟨rfl,fun k hk=>by omega⟩
theorem P6.skip{Kf:Int→Nat}{T:List Int}{i:Nat}{B:Int}(h:P6 Kf T i B)(hi:(i:Int)∈T):P6 Kf T (i+1) B:=by
 rcases h with⟨rfl,h⟩|⟨b,rfl,hb,hn,h⟩
 ·refine .inl ⟨rfl,fun k hk=> ?_⟩
  by_cases e:k=i
  ·subst e;exact hi
  ·exact h k (by omega)
 ·refine .inr ⟨b,rfl,by omega,hn,fun k hk hkn=> ?_⟩
  by_cases e:k=i
  ·subst e;exact(hkn hi).elim
  ·exact h k (by omega) hkn
theorem P6.first{Kf:Int→Nat}{T:List Int}{i:Nat}(h:P6 Kf T i (-1))(hi:(i:Int)∉T):P6 Kf T (i+1) i:=by
 rcases h with⟨_,h⟩|⟨b,hb,_⟩
 ·refine .inr ⟨i,rfl,by omega,hi,fun k hk hkn=> ?_⟩
  by_cases e:k=i
  ·exact .inl e
  ·exact(hkn (h k (by omega))).elim
 ·omega
theorem P6.more{Kf:Int→Nat}{T:List Int}{i b:Nat}(h:P6 Kf T i (b:Int))(hi:(i:Int)∉T)(hk:Kf b<Kf i):P6 Kf T (i+1) i:=by
 rcases h with⟨hb,_⟩|⟨b',hb,hb1,hb2,h⟩
 ·omega
 ·obtain rfl:b=b':=by omega
  refine .inr ⟨i,rfl,by omega,hi,fun k hk' hkn=> ?_⟩
  by_cases e:k=i
  ·exact .inl e
  ·refine .inr (.inl ?_)
   rcases h k (by omega) hkn with rfl|h
   ·exact hk
   ·unfold Rk at h;omega
theorem P6.less{Kf:Int→Nat}{T:List Int}{i b:Nat}(h:P6 Kf T i (b:Int))(hi:(i:Int)∉T)(hk:¬Kf b<Kf i):P6 Kf T (i+1) b:=by
 rcases h with⟨hb,_⟩|⟨b',hb,hb1,hb2,h⟩
 ·omega
 ·obtain rfl:b=b':=by omega
  refine .inr ⟨b,rfl,by omega,hb2,fun k hk' hkn=> ?_⟩
  by_cases e:k=i
  ·refine .inr ?_
   subst e
   unfold Rk
   omega
  ·exact h k (by omega) hkn
section
variable{h0 h:c9}{l:List HP}
theorem a3F{A:Option Addr}{c:Nat}(sum:Nat)(ws:List Int){out0:List Int}(ha:∀h',St h0 h' l→Arr i6 1 h' A ws)(hask:N3 sum ws=0)(hI:J8 sum (J3 ws).sum (J3 ws) out0)(S:St h0 h l):
  d8 Tryz.prog 85 [.int .i64 sum,.slice A ws.length c] h fun v h'=>St h0 h' (i4 i6 1 2 v out0::l):=by
 obtain⟨hw0,hw1,hf,hs0,hs1,hs2,hs3⟩:=b6l hask
 obtain⟨hep,hem⟩:=a7k hask
 have hel:=a7j ws
 obtain⟨Z,hp,hs,hout⟩:=hI
 refine EN i85.eq_1 fun K hK=>Wa ?_
 refine lI (fun ρ h'=>h'=h∧ρ 0= .int .i64 sum∧ρ 1= .slice A ws.length c∧ρ 19= .int .i64 ws.length∧∃i:Nat,ρ 20= .int .i64 i∧i≤ws.length∧ρ 5= .int .i64 (ws.take i).sum) (fun ρ _=>ws.length-(iv (ρ 20)).toNat) ?_ ?_
 ·refine Wa ?_
  exact⟨0,rfl,by omega,rfl⟩
 rintro ρ h' J hJ ⟨rfl,e0,e1,e19,i,e20,hi,e5⟩
 refine Wc e19 e20 ?_
 refine cD (fun hlt=> ?_) (fun hlt=> ?_)
 ·have hil:i<ws.length:=by omega
  obtain⟨bk,off,rfl,hr⟩:=ha h' S i hil
  have hr:=rP hr 0 (by omega)
  simp only[i6,l_o,H8]at hr
  have hb:=a3r (ws:=ws.take i) fun w hw=>hf w (a1O hw)
  have hz:=hf _ (l_v hil)
  have hbl:(ws.take i).length≤200:=by rw[x4];omega
  unfold a3N at hz
  have w1:IntKind.i64.wrap ((ws.take i).sum+ws[i])=(ws.take i).sum+ws[i]:=u5 (by omega) (by omega)
  refine Wf e1 e20 hr e5 w1 ?_
  refine hJ _ _ ?_ ?_
  ·refine Wd e0 e1 e19 ?_
   refine⟨i+1,rfl,by omega,?_⟩
   rw[l_t hil,a2m]
   simp
  ·refine Wb e20 ?_
   omega
 obtain rfl:i=ws.length:=by omega
 rw[C9]at e5
 clear hJ
 refine Wa ?_
 (revert S;(try clear F);refine AL fun g h S F=> ?_)
 have S:=S.cellOwn (enc:=i6) (sz:=1) (ys:=[]) zEl rfl (by decide)
 clear F
 refine Wb e1 ?_
 refine tAp (bytes:=8) (ys:=ws) zEl (by omega) zEp rfl S rfl (E9 zEl (ha _ S.tl) rfl) (by simp only[l_g];omega) (by simp only[l_g];omega) ?_
 clear S
 intro v h S
 rw[l_k]at S
 obtain⟨A7,c7,rfl⟩:=S.sl
 obtain⟨b7,rfl⟩:=S.ownAt (by omega)
 refine Wb e5 ?_
 refine cC (fun ρ' h'=>ρ' 0= .int .i64 sum∧ρ' 5= .int .i64 ((J3 ws).sum:Nat)∧ρ' 7= .slice (some ⟨b7,0,none⟩) ws.length c7∧St h0 h' (i4 i6 1 2 (.slice (some ⟨b7,0,none⟩) ws.length c7) ((J3 ws).map Int.ofNat)::l)) ?_ ?_ ?_
 ·intro hb1 J hJ
  have hall:ws.sum=0:=s7 hb1
  have he:J3 ws=List.replicate ws.length 1:=by unfold J3;rw[if_pos hall]
  refine Wa ?_
  refine lI (fun ρ' h'=>ρ' 0= .int .i64 sum∧ρ' 7= .slice (some ⟨b7,0,none⟩) ws.length c7∧ρ' 36= .int .i64 ws.length∧∃i:Nat,ρ' 37= .int .i64 i∧i≤ws.length∧∃X:List Int,X.length=ws.length-i∧
   St h0 h' (i4 i6 1 2 (.slice (some ⟨b7,0,none⟩) ws.length c7) (List.replicate i 1++X)::l)) (fun ρ' _=>ws.length-(iv (ρ' 37)).toNat) ?_ ?_
  ·refine Wb e0 ?_
   exact⟨0,rfl,by omega,ws,rfl,S⟩
  clear S
  rintro ρ h J' hJ' ⟨e0,e7,e36,i,e37,hi,X,hX,S⟩
  refine Wc e36 e37 ?_
  refine cD (fun hlt=> ?_) (fun hlt=> ?_)
  ·have hil:i<ws.length:=by omega
   refine Wc e37 e7 ?_
   refine v7 (i:=i) (x:=1) zEl S (by rw[l_m,G4];omega) rfl rfl rfl rfl ?_
   clear S
   intro h S
   refine Wb e37 ?_
   refine hJ' _ _ ?_ ?_
   ·refine Wd e0 e7 e36 ?_
    obtain⟨x,X',rfl⟩:∃x X',X=x::X':=by
     cases X with
     |nil=>simp at hX;omega
     |cons x X'=>exact⟨x,X',rfl⟩
    refine⟨i+1,rfl,by omega,X',by rw[l_f]at hX;omega,?_⟩
    have:(List.replicate i (1:Int)++x::X').set i 1=List.replicate (i+1) 1++X':=by
     rw[a6l _ _ (by rw[G4];exact x9 _),G4,Nat.sub_self,l_h,List.replicate_succ',l_q]
     rfl
    rw[this]at S
    exact S
   ·refine Wb e37 ?_
    omega
  ·obtain rfl:i=ws.length:=by omega
   rw[Nat.sub_self]at hX
   rw[a7w hX,D9]at S
   refine Wb e7 ?_
   refine hJ _ _ ?_
   refine Wb e0 ?_
   rw[he,a0E,List.map_replicate]
   exact⟨rfl,e7,S⟩
 ·intro hb1 J hJ
  have hall:¬ws.sum=0:=y7 hb1
  have he:J3 ws=ws.map Int.toNat:=by unfold J3;rw[if_neg hall]
  refine Wa ?_
  refine hJ _ _ ?_
  refine Wb e0 ?_
  have hsum:=b0J (ws.map Int.toNat)
  rw[W9 hf]at hsum
  rw[he,W9 hf,←hsum]
  exact⟨e5,S⟩
 clear S
 rintro ρ h ⟨e0,e5,e7,S⟩
 have hask1:(J3 ws).length≤200:=by omega
 have hn0:0<(J3 ws).length:=by omega
 have hsb:sum≤1125899906842624:=by omega
 rw[←hel]at e7 S
 clear ha hask hf hw0 hw1 hs1 hs2 hs3 hel
 generalize J3 ws=W at*
 obtain⟨hl1,hl2⟩:=a2F hep (rfl:W.sum=W.sum) (sum:=sum)
 have hQl:((v9 sum W.sum W).map Int.ofNat).length=W.length:=by rw[l_z,a0A]
 have hRl:(D5 sum W.sum W).length=W.length:=a9B ..
 have S:St h0 h (i4 a8f 1 216 (.slice none 0 0) []::i4 i6 1 2 (.slice none 0 0) []::_):=S.nilS.nilS
 refine Wc e0 e7 ?_
 refine lI (fun ρ' h'=>ρ' 0= .int .i64 sum∧ρ' 5= .int .i64 (W.sum:Nat)∧ρ' 7= .slice (some ⟨b7,0,none⟩) W.length c7∧ρ' 48= .int .i64 W.length∧∃(i:Nat) (Ao Ar:Option Addr) (co cr:Nat),ρ' 49= .int .i64 i∧i≤W.length∧ρ' 9= .slice Ao i co∧ρ' 10= .slice Ar i cr∧ρ' 11= .int .i64 ((sum:Int)-((v9 sum W.sum W).take i).sum)∧
  St h0 h' (i4 a8f 1 216 (.slice Ar i cr) ((D5 sum W.sum W).take i)::i4 i6 1 2 (.slice Ao i co) (((v9 sum W.sum W).map Int.ofNat).take i)::i4 i6 1 2 (.slice (some ⟨b7,0,none⟩) W.length c7) (W.map Int.ofNat)::l)) (fun ρ' _=>W.length-(iv (ρ' 49)).toNat) ?_ ?_
 ·refine Wd e0 e5 e7 ?_
  exact⟨0,none,none,0,0,rfl,by omega,rfl,rfl,by simp,by simpa using S⟩
 clear S e0 e5 e7
 rintro ρ h J hJ ⟨e0,e5,e7,e48,i,Ao,Ar,co,cr,e49,hi,e9,e10,e11,S⟩
 refine Wc e48 e49 ?_
 refine cD (fun hlt=> ?_) (fun hlt=> ?_)
 ·have hil:i<W.length:=by omega
  have hr:=F8 S.p2 (i:=i) (x:=(W[i]:Nat)) (by rw[a0H,l_r hil];rfl)
  have hwm:W[i]≤W.sum:=a4F (l_v hil)
  have hqb:sum*W[i]/W.sum≤sum:=by
   apply Nat.le_of_mul_le_mul_right (c:=W.sum) _ hep
   exact Z0 (Nat.div_mul_le_self _ _) (Nat.mul_le_mul_left _ hwm)
  have hqn:(v9 sum W.sum W)[i]'(by rw[a0A];exact hil)=sum*W[i]/W.sum:=by simp only[v9,Y9]
  have hqi:((v9 sum W.sum W).map Int.ofNat)[i]'(by rw[hQl];exact hil)=((sum*W[i]/W.sum:Nat):Int):=by rw[Y9,hqn];rfl
  have hri:(D5 sum W.sum W)[i]'(by rw[hRl];exact hil)=sum*W[i]%W.sum:=by simp only[D5,Y9]
  have hts:((v9 sum W.sum W).take (i+1)).sum=((v9 sum W.sum W).take i).sum+sum*W[i]/W.sum:=by rw[l_t (by rw[a0A];exact hil),a2m,hqn];simp
  have htl:((v9 sum W.sum W).take (i+1)).sum≤(v9 sum W.sum W).sum:=by
   conv=>rhs;rw[←G0 (i+1) (v9 sum W.sum W),a2m]
   exact Nat.le_add_right _ _
  have wl:IntKind.i64.wrap ((sum:Int)-((v9 sum W.sum W).take i).sum-((sum*W[i]/W.sum:Nat):Int))=(sum:Int)-((v9 sum W.sum W).take (i+1)).sum:=by
   rw[hts,u5 (by omega) (by omega)]
   omega
  have hdv:=a7h sum W[i] W.sum (by omega) hwm hep hem h
  generalize hq:sum*W[i]/W.sum=q at*
  generalize hrr:sum*W[i]%W.sum=r at*
  generalize hw:W[i]=w at*
  refine Wf e0 e7 e49 hr e5 ?_
  refine cI hdv ?_
  rintro _ _ ⟨rfl,rfl⟩
  refine Wb e9 ?_
  (revert S;(try clear F);refine AL fun g h S F=> ?_)
  refine Wa ?_
  refine tA1 (bytes:=8) (x:=(q:Int)) zEl (by omega) zEp rfl rfl S.p2.p1 (by rw[x4];omega) (by rw[x4];omega) ?_
  clear S F hr hdv
  intro v h S
  rw[←hqi,←l_t]at S
  obtain⟨Ao,co,rfl⟩:=S.sl
  have hlo:(((v9 sum W.sum W).map Int.ofNat).take (i+1)).length=i+1:=by rw[x4,hQl];omega
  rw[hlo]at S⊢
  refine Wb e10 ?_
  (revert S;(try clear F);refine AL fun g2 h S F=> ?_)
  refine Wa ?_
  refine tA1 (bytes:=8) (x:=r) a4Z (by omega) b4f rfl rfl S.p2.p1 (by rw[x4];omega) (by rw[x4];omega) ?_
  clear S F
  intro v h S
  rw[←hri,←l_t]at S
  obtain⟨Ar,cr,rfl⟩:=S.sl
  have hlr:((D5 sum W.sum W).take (i+1)).length=i+1:=by rw[x4,hRl];omega
  rw[hlr]at S⊢
  refine Wd e11 wl e49 ?_
  refine hJ _ _ ?_ ?_
  ·refine We e0 e5 e7 e48 ?_
   exact⟨i+1,Ao,Ar,co,cr,rfl,by omega,rfl,rfl,rfl,S⟩
  ·refine Wb e49 ?_
   omega
 obtain rfl:i=W.length:=by omega
 rw[a2E (by rw[hRl];exact x9 _),a2E (by rw[hQl];exact x9 _)]at S
 rw[a2E (by rw[a0A];exact x9 _)]at e11
 clear hJ
 refine Wb e7 ?_
 refine a0V false a7u rfl S (by omega) (by omega) ?_
 clear S
 intro v h S
 obtain⟨Ag,cg,rfl⟩:=S.sl
 rw[G4,←b3p]at S
 rw[G4]
 have hZl:Z.length=W.length:=by rw[hp.length_eq,a3j]
 have hZn:Z.Nodup:=hp.nodup_iff.2 (Y3 _)
 obtain⟨lf,hlf⟩:∃lf,sum-(v9 sum W.sum W).sum=lf:=⟨_,rfl⟩
 rw[show(sum:Int)-((v9 sum W.sum W).sum:Nat)=(lf:Nat) by omega]at e11
 rw[hlf]at hout
 have hqd:∀x∈(v9 sum W.sum W).map Int.ofNat,0≤x∧x≤(sum:Int):=by
  intro x hx
  simp only[List.mem_map]at hx
  obtain⟨k,hk,rfl⟩:=hx
  have:=a4F hk
  show(0:Int)≤(k:Int)∧(k:Int)≤(sum:Int)
  omega
 generalize hQ:(v9 sum W.sum W).map Int.ofNat=Q at*
 generalize hR:D5 sum W.sum W=R at*
 generalize hnn:W.length=n at*
 obtain⟨bg,rfl⟩:=S.ownAt (by rw[a3P];omega)
 obtain⟨br,rfl⟩:=S.p1.ownAt (by omega)
 obtain⟨bo,rfl⟩:=S.p2.ownAt (by omega)
 have hlc:lf<1000000:=by omega
 refine Wa ?_
 refine lI (fun ρ' h'=>ρ' 7= .slice (some ⟨b7,0,none⟩) n c7∧ρ' 9= .slice (some ⟨bo,0,none⟩) n co∧ρ' 10= .slice (some ⟨br,0,none⟩) n cr∧ρ' 15= .slice (some ⟨bg,0,none⟩) n cg∧∃j:Nat,j≤lf∧ρ' 11= .int .i64 ((lf:Int)-j)∧
  St h0 h' (i4 c4d 1 4 (.slice (some ⟨bg,0,none⟩) n cg) (a0u n (Z.take j))::i4 a8f 1 216 (.slice (some ⟨br,0,none⟩) n cr) R::i4 i6 1 2 (.slice (some ⟨bo,0,none⟩) n co) (bump Q (Z.take j))::l)) (fun ρ' _=>(iv (ρ' 11)).toNat) ?_ ?_
 ·refine We e7 e9 e10 e11 ?_
  exact⟨0,by omega,by simp,S.p3.tl⟩
 clear S e0 e5 e7 e48 e49 e9 e10 e11
 rintro ρ h J hJ ⟨e7,e9,e10,e15,j,hj,e11,S⟩
 by_cases hlt:(0:Int)<(lf:Int)-j
 case neg=>
  obtain rfl:j=lf:=by omega
  refine Wc e11 hlt ?_
  refine Wb e9 ?_
  refine hK _ _ ?_
  rw[hout]
  exact S.p2.d1.d1
 have hjl:j<lf:=by omega
 have hjZ:j<Z.length:=by omega
 refine Wd e11 hlt e7 ?_
 refine lI (fun ρ' h'=>h'=h∧ρ' 7=ρ 7∧ρ' 9=ρ 9∧ρ' 10=ρ 10∧ρ' 11=ρ 11∧ρ' 15=ρ 15∧ρ' 80= .int .i64 n∧∃(i:Nat) (B:Int),ρ' 81= .int .i64 i∧i≤n∧ρ' 16= .int .i64 B∧P6 (fun i=>R.getD i.toNat 0) (Z.take j) i B) (fun ρ' _=>n-(iv (ρ' 81)).toNat) ?_ ?_
 ·refine Wb e7 ?_
  exact⟨0,-1,rfl,by omega,rfl,P6.zero _ _⟩
 rintro ρ2 h2 J2 hJ2 ⟨he2,w7,w9,w10,w11,w15,w80,i,B,w81,hi,w16,hB⟩
 subst he2
 refine Wc w80 w81 ?_
 refine cD (fun hil=> ?_) (fun hil=> ?_)
 ·have hin:i<n:=by omega
  have hgg:rd1 h2 (.pointer (some ⟨bg,i*1,none⟩))=some (.bool (decide ((i:Int)∈Z.take j))):=by
   obtain⟨b',o',hA,hr⟩:=S.arr a7u i (by rw[a3P];exact hin)
   cases hA
   have:=rP hr 0 (by omega)
   simpa[c4d,a0u]using this
  have hri:=a6y S.p1 (i:=i) (by omega)
  by_cases c1:(i:Int)∈Z.take j
  ·rw[decide_eq_true c1]at hgg
   refine Wa ?_
   refine dE ?_
   refine We w15 e15 w81 hgg ?_
   refine hJ2 _ _ ?_ ?_
   ·refine Wh w7 w9 w10 w11 w15 w80 w16 ?_
    exact⟨i+1,B,rfl,by omega,rfl,hB.skip c1⟩
   ·refine Wb w81 ?_
    omega
  rw[decide_eq_false c1]at hgg
  have hBB:=hB
  rcases hB with⟨rfl,_⟩|⟨b,rfl,hbi,_,_⟩
  ·refine Wa ?_
   refine dE ?_
   refine Wf w15 e15 w81 hgg w16 ?_
   refine hJ2 _ _ ?_ ?_
   ·refine Wg w7 w9 w10 w11 w15 w80 ?_
    exact⟨i+1,i,rfl,by omega,rfl,hBB.first c1⟩
   ·refine Wb w81 ?_
    omega
  have hrb:=a6y S.p1 (i:=b) (by omega)
  have c2:¬(b:Int)<0:=by omega
  have hgi:R.getD (i:Int).toNat 0=R[i]'(by omega):=by rw[K0,l_s,l_r (by omega)];rfl
  have hgb:R.getD (b:Int).toNat 0=R[b]'(by omega):=by rw[K0,l_s,l_r (by omega)];rfl
  by_cases c3:((R[b]'(by omega):Nat):Int)<(R[i]'(by omega):Nat)
  ·refine Wa ?_
   refine dE ?_
   refine Wi w15 e15 w81 hgg w16 c2 w10 (Pe e10 hri hrb c3) ?_
   refine hJ2 _ _ ?_ ?_
   ·refine Wg w7 w9 w10 w11 w15 w80 ?_
    exact⟨i+1,i,rfl,by omega,rfl,hBB.more c1 (by rw[hgi,hgb];omega)⟩
   ·refine Wb w81 ?_
    omega
  ·refine Wa ?_
   refine dE ?_
   refine Wi w15 e15 w81 hgg w16 c2 w10 (Pe e10 hri hrb c3) ?_
   refine hJ2 _ _ ?_ ?_
   ·refine Wh w7 w9 w10 w11 w15 w80 w16 ?_
    exact⟨i+1,b,rfl,by omega,rfl,hBB.less c1 (by rw[hgi,hgb];omega)⟩
   ·refine Wb w81 ?_
    omega
 ·obtain rfl:i=n:=by omega
  clear hJ2
  have hzd:=a0j.1 (hp.mem_iff.1 (l_v hjZ))
  have hnt:Z[j]∉Z.take j:=fun hm=>by
   have hsp:Z=Z.take j++Z[j]::Z.drop (j+1):=by rw[←X8 hjZ,G0]
   rw[hsp]at hZn
   exact(List.nodup_append.1 hZn).2.2 _ hm _ (l_n ..) rfl
  obtain⟨b,rfl,hbi,hbn,hbb⟩:∃b:Nat,B=b∧b<i∧(b:Int)∉Z.take j∧∀k,k<i→(k:Int)∉Z.take j→k=b∨Rk (fun i=>R.getD i.toNat 0) b k:=by
   rcases hB with⟨_,hall⟩|h
   ·have:=hall (Z[j]).toNat (by omega)
    rw[Int.toNat_of_nonneg hzd.1]at this
    exact(hnt this).elim
   ·exact h
  have hnext:=c2v hp hs hjZ (b:=(b:Int)) (by omega) hbn (fun x hx0 hxn hxt=>by
   rcases hbb x.toNat (by omega) (by rw[Int.toNat_of_nonneg hx0];exact hxt)with h|h
   ·exact .inl (by omega)
   ·rw[Int.toNat_of_nonneg hx0]at h;exact .inr h)
  have htk:Z.take (j+1)=Z.take j++ [(b:Int)]:=by rw[l_t hjZ,hnext]
  have hbl:(bump Q (Z.take j)).length=i:=by rw[a4l];omega
  have hbd:=a7a (by omega) (Z.take j) _ hqd _ (l_v (l:=bump Q (Z.take j)) (n:=b) (by omega))
  have hgd:(bump Q (Z.take j)).getD b 0=(bump Q (Z.take j))[b]'(by omega):=by rw[l_s,l_r (by omega)];rfl
  have ho:=F8 S.p2 (l_r (i:=b) (by omega))
  rw[x4]at hbd
  generalize hx:(bump Q (Z.take j))[b]'(by omega)=x at ho hbd hgd
  have w1:IntKind.i64.wrap (x+1)=x+1:=u5 (by omega) (by omega)
  have w2:IntKind.i64.wrap ((lf:Int)-j-1)=(lf:Int)-((j+1:Nat):Int):=by rw[u5 (by omega) (by omega)];omega
  refine Wd w15 e15 w16 ?_
  refine v7 (i:=b) (x:=true) a7u S (by rw[a3P];omega) rfl rfl rfl rfl ?_
  clear S ho
  intro h S
  have ho:=F8 S.p2 (l_r (i:=b) (by omega))
  rw[hx]at ho
  refine Wf w9 e9 w16 ho w1 ?_
  refine v7 (i:=b) (x:=x+1) zEl S.p2 (by omega) rfl rfl rfl rfl ?_
  clear S ho
  intro h S
  refine Wd w11 e11 w2 ?_
  rw[b3q _ hbi,←htk]at S
  refine hJ _ _ ?_ ?_
  ·refine Wi w7 w9 w10 w15 e7 e9 e10 e15 ?_
   refine⟨j+1,by omega,rfl,?_⟩
   rw[htk,a8N,K0,hgd,←htk]
   exact S.p1.p2.p1
  ·refine Wb e11 ?_
   omega
end
end
section
set_option maxHeartbeats 8000000
structure D64 where
 n:Int
def D64.enc(x:D64):List Value:=[.int .i64 x.n]
def D64.ok(x:D64):Prop:= -9223372036854775808≤x.n∧x.n<9223372036854775808
section
variable{h0 h:c9}{l:List HP}
end
end
section
set_option maxHeartbeats 8000000
theorem b2F{l:List Int}(h:∀x∈l,0≤x)(i:Nat):0≤(l.take i).sum∧(l.take i).sum≤l.sum:=by
 have hn:∀{m:List Int},(∀x∈m,0≤x)→0≤m.sum:=by
  intro m hm
  induction m with
  |nil=>simp
  |cons x m ih=>
   rw[K1]
   have:=hm x (by simp)
   have:=ih fun y hy=>hm y (by simp[hy])
   omega
 have h1:=hn fun x hx=>h x (a1O (i:=i) hx)
 have h2:=hn fun x hx=>h x (List.mem_of_mem_drop (i:=i) hx)
 refine⟨h1,?_⟩
 conv=>rhs;rw[←G0 i l,a2m]
 omega
theorem b2z{k:Nat}{ws out:List Int}(hask:N3 k ws=0)(hI:J8 k (J3 ws).sum (J3 ws) out):
  out.length=ws.length∧out.sum=k∧(∀x∈out,0≤x)∧
   (0<ws.sum→∀i (hi:i<ws.length),∃w:Nat,ws[i]=(w:Int)∧w≤ws.sum.toNat∧(out.getD i 0=((k*w/ws.sum.toNat:Nat):Int)∨out.getD i 0=((k*w/ws.sum.toNat:Nat):Int)+1))∧
   ∀i m (hi:i<ws.length) (hm:m<i),ws[m]=ws[i]→out.getD m 0=out.getD i 0∨out.getD m 0=out.getD i 0+1:=by
 obtain⟨hw0,hw1,hf,hs0,hs1,hs2,hs3⟩:=b6l hask
 obtain⟨hep,hem⟩:=a7k hask
 have hel:=a7j ws
 obtain⟨l1,l2,l3,l4⟩:=hI.law hep rfl
 refine⟨by omega,l2,?_,?_,?_⟩
 ·intro x hx
  obtain⟨i,hi,rfl⟩:=R7 hx
  have e:out.getD i 0=out[i]:=by rw[l_s,l_r hi];rfl
  have:=l3 i (by omega)
  rw[e]at this
  rcases this with h|h
  ·rw[h];exact Int.natCast_nonneg _
  ·rw[h];exact Int.add_nonneg (Int.natCast_nonneg _) (by decide)
 ·intro hp i hi
  have hsum:=b0J (ws.map Int.toNat)
  rw[W9 hf]at hsum
  have he:J3 ws=ws.map Int.toNat:=by unfold J3;rw[if_neg (by omega)]
  have hfi:=hf _ (l_v hi)
  unfold a3N at hfi
  have h3:=l3 i (by omega)
  have hss:(J3 ws).sum=ws.sum.toNat:=by rw[he];omega
  have hei:(J3 ws)[i]'(by omega)=ws[i].toNat:=by simp only[he,Y9]
  have hle:(ws.map Int.toNat)[i]'(by rw[l_z];exact hi)≤(ws.map Int.toNat).sum:=a4F (l_v _)
  rw[Y9]at hle
  rw[hei,hss]at h3
  exact⟨ws[i].toNat,by omega,by omega,h3⟩
 ·intro i m hi hm hwm
  refine l4 i m (by omega) hm ?_
  by_cases hz:ws.sum=0
  ·have he:J3 ws=List.replicate ws.length 1:=by unfold J3;rw[if_pos hz]
   simp only[he,List.getElem_replicate]
  ·have he:J3 ws=ws.map Int.toNat:=by unfold J3;rw[if_neg hz]
   simp only[he,Y9,hwm]
section
variable{h0 h:c9}{l:List HP}
end
end
section
set_option maxHeartbeats 4000000
instance rkDec (Kf:Int→Nat) (x y:Int):Decidable (Rk Kf x y):=by unfold Rk;exact inferInstance
theorem b3V{Kf:Int→Nat}{a b c:Int}(h1:Rk Kf a b∨a=b)(h2:Rk Kf b c∨b=c):Rk Kf a c∨a=c:=by
 rcases h1 with h1|rfl
 ·rcases h2 with h2|rfl
  ·exact .inl (h1.trans h2)
  ·exact .inl h1
 ·exact h2
theorem b3U{Kf:Int→Nat}(a b:Int):(Rk Kf a b∨a=b)∨(Rk Kf b a∨b=a):=by
 unfold Rk
 omega
theorem a5Y(sum all:Nat)(ws:List Nat):∃out,J8 sum all ws out:=by
 have hs:=List.pairwise_mergeSort (le:=fun a b:Int=>decide (Rk (fun i=>(D5 sum all ws).getD i.toNat 0) a b∨a=b)) (by
  intro a b c h1 h2
  exact decide_eq_true (b3V (of_decide_eq_true h1) (of_decide_eq_true h2))) (by
  intro a b
  rw[Bool.or_eq_true,decide_eq_true_eq,decide_eq_true_eq]
  exact b3U a b) (Q4 ws.length)
 have hp:=List.mergeSort_perm (Q4 ws.length) (fun a b:Int=>decide (Rk (fun i=>(D5 sum all ws).getD i.toNat 0) a b∨a=b))
 have hn:((Q4 ws.length).mergeSort (fun a b:Int=>decide (Rk (fun i=>(D5 sum all ws).getD i.toNat 0) a b∨a=b))).Nodup:=hp.nodup_iff.2 (Y3 _)
 refine⟨_,_,hp,?_,rfl⟩
 have:=List.Pairwise.and hs hn
 refine this.imp ?_
 rintro a b ⟨h1,h2⟩
 simp only[decide_eq_true_eq]at h1
 exact h1.resolve_right h2
noncomputable def shF(sum:Nat)(ws:List Int):List Int:=Classical.choose (a5Y sum (J3 ws).sum (J3 ws))
theorem a5J(sum:Nat)(ws:List Int):J8 sum (J3 ws).sum (J3 ws) (shF sum ws):=Classical.choose_spec (a5Y sum (J3 ws).sum (J3 ws))
structure Unt where
 ord:Int
 sku:Int
 cat:Int
 share:Int
def Unt.enc(u:Unt):List Value:=[.int .i64 u.ord,.int .i64 u.sku,.int .i64 u.cat,.int .i64 u.share]
theorem Unt.enc_len(x:Unt):x.enc.length=4:=rfl
theorem Unt.enc_plain(x:Unt):pC x.enc=true:=rfl
def b9s(i:Int)(l:Lin):List Unt:=List.replicate l.count.toNat ⟨i,l.sku,l.cat,l.price⟩
def b1Q(l:Lin):List Int:=List.replicate l.count.toNat l.price
def E2(i:Int)(ls:List Lin):List Unt:=ls.flatMap (b9s i)
def m7(ls:List Lin):List Int:=ls.flatMap b1Q
def a2M(o:Odr):Nat→Int|0=>o.disc|1=>o.tax|_=>o.ship
def b0v:Nat→Int|0=> -1|_=>1
def a3H(sg:Int)(sh:List Int)(U:List Unt):List Unt:=List.zipWith (fun u s=>{u with share:=u.share+sg*s}) U sh
noncomputable def U8(o:Odr)(i:Int):Nat→List Unt
 |0=>E2 i o.ls
 |r+1=>a3H (b0v r) (shF (a2M o r).toNat (m7 o.ls)) (U8 o i r)
noncomputable def U7(o:Odr)(i:Int):List Unt:=U8 o i 3
def U6(s:Sup):List Unt:=List.replicate s.count.toNat ⟨-1,s.sku,0,s.price⟩
noncomputable def E1:Nat→List Odr→List Unt
 |_,[]=> []
 |i,o::os=>U7 o i++E1 (i+1) os
noncomputable def l9(C:Cfg):List Unt:=E1 0 C.os++C.ss.flatMap U6
theorem b7a(a b:List Odr):∀i,E1 i (a++b)=E1 i a++E1 (i+a.length) b:=by
 induction a with
 |nil=>intro i;simp[E1]
 |cons o a ih=>intro i;simp only[l_j,E1,ih,l_f,l_q];rw[show i+1+a.length=i+(a.length+1) by omega]
structure OkO(o:Odr):Prop where
 ls:∃k:Int,∀l∈o.ls,W5 k l
 n0:1≤o.ls.length
 n1:o.ls.length≤8
 cnt:H7 o.ls≤200
 disc:H0 o.disc
 tax:H0 o.tax
 ship:H0 o.ship
 le:o.disc≤a0o o.ls
theorem M7(ls:List Lin)(h:∀l∈ls,0≤l.count):((m7 ls).length:Int)=H7 ls∧(m7 ls).sum=a0o ls∧∀i,(E2 i ls).length=(m7 ls).length∧(E2 i ls).map Unt.share=m7 ls:=by
 induction ls with
 |nil=>exact⟨rfl,rfl,fun _=>⟨rfl,rfl⟩⟩
 |cons x ls ih=>
  obtain⟨h1,h2,h3⟩:=ih fun l hl=>h l (by simp[hl])
  have hx:=h x (by simp)
  have hr:∀(n:Nat) (p:Int),(List.replicate n p).sum=p*n:=by
   intro n p
   induction n with
   |zero=>simp
   |succ n ih=>rw[List.replicate_succ,K1,ih,Int.natCast_succ,Int.mul_add,Int.mul_one,Int.add_comm]
  refine⟨?_,?_,fun i=>⟨?_,?_⟩⟩
  ·simp only[m7,X9,l_m,b1Q,G4,H7,G7,K1]at h1⊢
   omega
  ·simp only[m7,X9,a2m,b1Q,a0o,G7,K1]at h2⊢
   rw[h2,hr,Int.toNat_of_nonneg hx]
  ·have:=(h3 i).1
   simp only[E2,m7,X9,l_m,b9s,b1Q,G4]at this⊢
   omega
  ·have:=(h3 i).2
   simp only[E2,m7,X9,L7,b9s,b1Q,List.map_replicate]at this⊢
   rw[this]
theorem OkO.count{o:Odr}(h:OkO o):∀l∈o.ls,0≤l.count:=fun l hl=>by
 obtain⟨k,hk⟩:=h.ls
 have:=(hk l hl).1.2.2
 omega
theorem a3Z{o:Odr}(h:OkO o):∀p∈m7 o.ls,H0 p:=by
 intro p hp
 obtain⟨k,hk⟩:=h.ls
 simp only[m7,List.mem_flatMap,b1Q,List.mem_replicate]at hp
 obtain⟨l,hl,_,rfl⟩:=hp
 exact(hk l hl).1.2.1
theorem OkO.okp{o:Odr}(h:OkO o)(r:Nat):H0 (a2M o r):=by
 match r with
 |0=>exact h.disc
 |1=>exact h.tax
 |_+2=>exact h.ship
theorem OkO.ask{o:Odr}(h:OkO o){s:Int}(hs:H0 s):N3 s (m7 o.ls)=0:=by
 obtain⟨h1,h2,_⟩:=M7 o.ls h.count
 obtain⟨k,hk⟩:=h.ls
 have hb:=O7 hk
 have:=h.n0
 have:=h.n1
 have:=h.cnt
 obtain⟨hs0,hs1⟩:=hs
 unfold N3
 rw[if_neg,if_neg (by omega)]
 rintro(h'|h'|h')
 ·omega
 ·omega
 ·exact h' fun p hp=>by
   have:=a3Z h p hp
   exact⟨this.1,by have:=this.2;omega⟩
theorem b4Z:∀{l:List Int},(∀x∈l,0≤x)→∀x∈l,x≤l.sum
 | [],_,x,hx=>by cases hx
 |y::l,h,x,hx=>by
  rw[K1]
  have h1:=h y (by simp)
  have h2:=b4Z (l:=l) fun z hz=>h z (by simp[hz])
  have h3:=b2F (l:=l) (fun z hz=>h z (by simp[hz])) 0
  simp only[a2j,List.sum_nil]at h3
  rcases List.mem_cons.1 hx with rfl|hx
  ·omega
  ·have:=h2 x hx;omega
theorem a4V{s:Nat}{ws:List Int}(hask:N3 s ws=0):(shF s ws).length=ws.length∧(shF s ws).sum=s∧(∀x∈shF s ws,0≤x∧x≤(s:Int)):=by
 obtain⟨h1,h2,h3,_⟩:=b2z hask (a5J s ws)
 exact⟨h1,h2,fun x hx=>⟨h3 x hx,by rw[←h2];exact b4Z h3 x hx⟩⟩
theorem OkO.sh{o:Odr}(h:OkO o)(r:Nat):(shF (a2M o r).toNat (m7 o.ls)).length=(m7 o.ls).length∧(shF (a2M o r).toNat (m7 o.ls)).sum=a2M o r∧(∀x∈shF (a2M o r).toNat (m7 o.ls),0≤x∧x≤1073741824):=by
 have hp:=h.okp r
 have ha:=h.ask hp
 have hp1:=hp.1
 have hp2:=hp.2
 rw[←Int.toNat_of_nonneg hp1]at ha
 obtain⟨h1,h2,h3⟩:=a4V ha
 refine⟨h1,by rw[h2];omega,fun x hx=>⟨(h3 x hx).1,?_⟩⟩
 have:=(h3 x hx).2
 omega
theorem b1e{sg:Int}{sh:List Int}{U:List Unt}(h:sh.length=U.length):(a3H sg sh U).length=U.length:=by
 rw[a3H,List.length_zipWith];omega
theorem a1Z{o:Odr}(h:OkO o)(i:Int):∀r,(U8 o i r).length=(m7 o.ls).length
 |0=>((M7 o.ls h.count).2.2 i).1
 |r+1=>by
  have:=a1Z h i r
  rw[U8,b1e (by rw[(h.sh r).1,this]),this]
theorem a7R(r:Nat):b0v r= -1∨b0v r=1:=by
 match r with
 |0=>exact .inl rfl
 |_+1=>exact .inr rfl
theorem a1Y{o:Odr}(h:OkO o)(i:Int):∀r,∀u∈U8 o i r,-1073741824*(r:Int)≤u.share∧u.share≤1073741824*((r:Int)+1)
 |0,u,hu=>by
  have h1:=((M7 o.ls h.count).2.2 i).2
  obtain⟨p1,p2⟩:=a3Z h u.share (by rw[←h1];exact a0I hu)
  constructor<;>omega
 |r+1,u,hu=>by
  rw[U8,a3H]at hu
  obtain⟨k,hk,rfl⟩:=R7 hu
  rw[List.getElem_zipWith]
  rw[List.length_zipWith]at hk
  have h1:=a1Y h i r _ (l_v (l:=U8 o i r) (n:=k) (by omega))
  have h2:=(h.sh r).2.2 _ (l_v (l:=shF (a2M o r).toNat (m7 o.ls)) (n:=k) (by omega))
  generalize (U8 o i r)[k]'(by omega)=v at*
  generalize (shF (a2M o r).toNat (m7 o.ls))[k]'(by omega)=x at*
  show-1073741824*((r+1:Nat):Int)≤v.share+b0v r*x∧v.share+b0v r*x≤1073741824*(((r+1:Nat):Int)+1)
  rcases a7R r with e|e
  ·rw[e];omega
  ·rw[e];omega
theorem b5A{α:Type}(X U:List α)(hl:X.length=U.length){k:Nat}(hk:k<U.length):(X.take k++U.drop k).set k (X[k]'(by omega))=X.take (k+1)++U.drop (k+1):=by
 rw[a6l _ _ (by rw[x4];omega),x4,show k-min k X.length=0 by omega,X8 hk,l_h,l_t (by omega),l_q]
 rfl
theorem b0q{α:Type}(X U:List α)(hl:X.length=U.length)(k:Nat):(X.take k++U.drop k).length=U.length:=by
 rw[l_m,x4,M2];omega
theorem b0p{α:Type}(X U:List α)(hl:X.length=U.length){k:Nat}(hk:k<U.length):(X.take k++U.drop k)[k]'(by rw[b0q X U hl];exact hk)=U[k]:=by
 rw[List.getElem_append_right (by rw[x4];omega)]
 simp[x4,show k-min k X.length=0 by omega]
end
end Go.Proofs.YtjagmebglhbdkaaGreat.MX
