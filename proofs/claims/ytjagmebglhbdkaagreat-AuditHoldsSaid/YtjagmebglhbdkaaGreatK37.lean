import Derived.Test.YtjagmebglhbdkaaGreatK36
import Derived.Test.YtjagmebglhbdkaaGreatK35
import Derived.Test.YtjagmebglhbdkaaGreatK24
namespace Go.Proofs.YtjagmebglhbdkaaGreat.MX
open Go Go.Proofs
set_option linter.unusedSimpArgs false
set_option linter.unusedVariables false
section
set_option maxHeartbeats 8000000
section
variable{h0 h:c9}{l:List HP}{L:V3}{C:Cfg}{u:Value}{w:Wk}{U:List Unt}{m n b i:Nat}{Au:Option Addr}{cu:Nat}
theorem St.moGs(S:St h0 h (n9 L C u w::l))(hA:L.A=some ⟨b,0,none⟩)(hi:i<w.s.R.length)(hg:0<(w.R i).gs.length):∃bg d,rd1 h (.pointer (some ⟨b,i*14+9,none⟩))=some (.slice (some ⟨bg,0,none⟩) (w.R i).gs.length d)∧Arr i6 1 h (some ⟨bg,0,none⟩) (w.R i).gs∧
  ∀(j off:Nat) (g:Int) (K:Value→c9→Prop) (s:Tag h) (t:Tag K),j<(w.R i).gs.length→off=j→(∀h',St h0 h' (n9 L C u (w.put i {w.R i with gs:=(w.R i).gs.set j g})::l)→K undef h')→P8 1 (.pointer (some ⟨bg,off,none⟩)) [.int .i64 g] h K s t:=by
 obtain⟨x,hx,hrd,-,-,hgs⟩:=S.moRet hA hi
 have q9:=hrd 9 (by omega)
 clear hrd
 obtain⟨k,tt,o,sd,vs,hv,S⟩:=St.mo.1 S
 have hil:i<vs.length:=by rw[←hv,l_z]at hi;exact hi
 have ex:vs[i].r=w.R i:=by
  unfold Wk.R
  rw[←hv,l_s,a0H,l_r hil]
  rfl
 have q:rd1 h (.pointer (some ⟨b,i*14+9,none⟩))=vs[i].enc[9]? :=by
  have S4:=St.p4 S
  rw[hA]at S4
  exact u2 i0.enc_len S4 hil (by omega)
 simp only[i0.enc,l_o,l_p,ex]at q
 have S1:=St.perm S (W7 _ _ _ _ _ _ _ _)
 have S2:=a7W hil S1
 have S3:=St.star.1 S2
 have hgne:0<vs[i].r.gs.length:=by rw[ex];exact hg
 obtain⟨bg,hbg⟩:=S3.p1.ownAt hgne
 have Sg:=S3.p1
 rw[hbg]at q Sg
 refine⟨bg,vs[i].d,q,by have:=Sg.arr zEl;rwa[ex]at this,fun j off g K s t hj hoff hk=> ?_⟩
 subst hoff
 refine v7 zEl (i:=off) (x:=g) Sg (by rw[ex];exact hj) (by rw[m9]) rfl rfl rfl ?_
 intro h' S
 rw[ex]at S
 obtain⟨y,hyd⟩:∃y:i0,y={vs[i]with r:={w.R i with gs:=(w.R i).gs.set off g} }:=⟨_,rfl⟩
 have hrow:j2 y=a2S (i4 i6 1 3 (.slice vs[i].A (w.R i).us.length vs[i].c) (w.R i).us) (i4 i6 1 3 (.slice (some ⟨bg,0,none⟩) (w.R i).gs.length vs[i].d) ((w.R i).gs.set off g)):=by
  rw[hyd,j2]
  simp only[T3,hbg]
 have S3:=St.star.2 S.p1
 rw[←hrow]at S3
 have S:=b0D (F:=j2) (z:=y) hil S3
 have henc:y.enc=vs[i].enc:=by rw[hyd,i0.enc,i0.enc];simp only[T3,ex]
 have S:=S.ownTo (ys:=vs.set i y) (enc':=i0.enc) (by rw[a8Z _ hil henc]) (by rw[T3])
 have S:=S.perm (W7 _ _ _ _ _ _ _ _).symm
 refine hk _ (St.mo.2 ⟨k,tt,o,sd,vs.set i y,?_,?_⟩)
 ·rw[List.map_set,hv,hyd];rfl
 ·have e2:(w.put i {w.R i with gs:=(w.R i).gs.set off g}).s.R.length=w.s.R.length:=o7
  unfold moL
  rw[e2]
  exact S
theorem a3X(n:Nat)(hn:n<U.length)(hc:∀h',St h0 h' l→C.rd h')(hu:∀h',St h0 h' l→Arr Unt.enc 4 h' Au U)(hD:Stc C U)(S:St h0 h (n9 L C (.slice Au U.length cu) w::l)):
  d8 Tryz.prog 160 [.pointer (some ⟨L.p,0,none⟩),.int .i64 (n:Int)] h fun v h'=>v= .agg (C8 C.ps (j9 U n).cat).enc.toArray∧St h0 h' (n9 L C (.slice Au U.length cu) w::l):=by
 have hat:j9 U (n:Int)=U[n]:=by rw[j9,K0,l_s,l_r hn];rfl
 have hcat:=hD.cat _ (l_v hn)
 obtain⟨c,hcc⟩:=l_u hcat
 have hdef:C8 C.ps (j9 U (n:Int)).cat=C.ps.getD c Pol.zero:=by
  unfold C8
  rw[hat,if_pos hcat,hcc,K0]
 rw[hdef]
 obtain⟨k,t,o,sd,vs,hv,S⟩:=St.mo.1 S
 have hl:∀{h':c9}{g:HP},St h0 h' (g::moL L C (.slice Au U.length cu) w k t o sd vs l)→St h0 h' l:=fun S=>(St.mo.2 ⟨k,t,o,sd,vs,hv,S.tl⟩:St h0 _ (n9 L C _ w::l)).tl
 refine EN i160.eq_1 fun K hK=>Wa ?_
 refine tA S ?_
 clear S
 intro g h S
 replace S:=S.nm
 have F:=S.tl.moF
 obtain⟨b4,o4,hA4,q4⟩:=(hu _ (hl S)).at hn
 have q2:=rP q4 2 (by omega)
 simp only[Unt.enc,l_o,l_p,hcc]at q2
 rw[hA4]at F
 by_cases hk:c<C.ps.length
 ·obtain⟨b5,o5,hA5,q5⟩:=(hc _ (hl S)).ps.at hk
  have hgd:C.ps.getD c Pol.zero=C.ps[c]:=by rw[l_s,l_r hk];rfl
  have F:=fun off=>(F off).trans (congrArg (fun A=>(x6 {C with A3:=A} (.slice (some ⟨b4,o4,none⟩) U.length cu) k (.slice L.A w.s.R.length L.c) t o sd w.s)[off]?) hA5)
  rw[hgd]at hK
  generalize C.ps[c]=P at*
  refine Wf F @x6.eq_1 q2 q5 @Pol.enc.eq_1 ?_
  (revert S;(try clear F);refine ST fun h S F=> ?_)
  refine Wb F ?_
  exact hK _ _ ⟨rfl,St.mo.2 ⟨k,t,o,sd,vs,hv,S.tl⟩⟩
 ·have hgd:C.ps.getD c Pol.zero=Pol.zero:=by rw[l_s,Y1 (by omega)];rfl
  rw[hgd]at hK
  refine Wd F @x6.eq_1 q2 ?_
  (revert S;(try clear F);refine ST fun h S F=> ?_)
  refine Wb F ?_
  exact hK _ _ ⟨rfl,St.mo.2 ⟨k,t,o,sd,vs,hv,S.tl⟩⟩
theorem St.mrU(S:St h0 h (n9 L C u w::l)):rd1 h (.pointer (some ⟨L.p,3,none⟩))=some u:=by
 obtain⟨k,t,o,sd,vs,hv,S⟩:=St.mo.1 S
 exact S.moF 3
theorem St.mrNow(S:St h0 h (n9 L C u w::l)):rd1 h (.pointer (some ⟨L.p,14,none⟩))=some (.int .i64 w.s.now):=by
 obtain⟨k,t,o,sd,vs,hv,S⟩:=St.mo.1 S
 exact S.moF 14
theorem St.mrR(S:St h0 h (n9 L C u w::l)):rd1 h (.pointer (some ⟨L.p,10,none⟩))=some (.slice L.A w.s.R.length L.c):=by
 obtain⟨k,t,o,sd,vs,hv,S⟩:=St.mo.1 S
 exact S.moF 10
theorem St.mrOs(S:St h0 h (n9 L C u w::l)):rd1 h (.pointer (some ⟨L.p,0,none⟩))=some (.slice C.A1 C.os.length C.c1):=by
 obtain⟨k,t,o,sd,vs,hv,S⟩:=St.mo.1 S
 exact S.moF 0
theorem St.mrC(S:St h0 h (n9 L C u w::l)):rdN h L.p 0 3=some C.enc:=by
 obtain⟨k,t,o,sd,vs,hv,S⟩:=St.mo.1 S
 exact S.moC
theorem St.mrRet(S:St h0 h (n9 L C u w::l))(hA:L.A=some ⟨b,0,none⟩)(hi:i<w.s.R.length){j:Nat}(hj:j<14)(h8:j≠8∧j≠9):rd1 h (.pointer (some ⟨b,i*14+j,none⟩))=(i0.enc ⟨w.R i,none,0,none,0⟩)[j]? :=by
 obtain⟨x,hx,hrd,-,-,-⟩:=S.moRet hA hi
 rw[hrd j hj]
 have:j=0∨j=1∨j=2∨j=3∨j=4∨j=5∨j=6∨j=7∨j=10∨j=11∨j=12∨j=13:=by omega
 rcases this with rfl|rfl|rfl|rfl|rfl|rfl|rfl|rfl|rfl|rfl|rfl|rfl<;>(simp only[i0.enc,l_o,l_p,hx])
theorem St.mrUs(S:St h0 h (n9 L C u w::l))(hA:L.A=some ⟨b,0,none⟩)(hi:i<w.s.R.length):∃A c,rd1 h (.pointer (some ⟨b,i*14+8,none⟩))=some (.slice A (w.R i).us.length c)∧Arr i6 1 h A (w.R i).us:=by
 obtain⟨x,hx,hrd,-,h1,-⟩:=S.moRet hA hi
 have q:=hrd 8 (by omega)
 simp only[i0.enc,l_o,l_p,hx]at q
 exact⟨_,_,q,by rw[←hx];exact h1⟩
end
end
section
set_option maxHeartbeats 16000000
def resM(h0:c9)(L:V3)(C:Cfg)(u:Value)(l:List HP)(x:Except Int Wk)(v:Value)(h':c9):Prop:=match x with
 | .error e=>e≠0∧v= .int .i64 e∧St h0 h' l
 | .ok w'=>v= .int .i64 0∧St h0 h' (n9 L C u w'::l)
theorem c3X(P:Pol){n:Nat}(hn:n<4):P.enc[8+n*2+1]? =some (.int .i64 (P.gto n)):=by
 have:n=0∨n=1∨n=2∨n=3:=by omega
 rcases this with rfl|rfl|rfl|rfl<;>rfl
section
variable{h0 h:c9}{l:List HP}{L:V3}{C:Cfg}{w:Wk}{U:List Unt}{m n b i:Nat}{Au:Option Addr}{cu:Nat}
theorem b6J(x:j0)(hc:∀h',St h0 h' l→C.rd h')(hu:∀h',St h0 h' l→Arr Unt.enc 4 h' Au U)(hD:Stc C U)(S:St h0 h (n9 L C (.slice Au U.length cu) w::l))(W:w.wf U m)(hm:m<300000)(B:Bnd n w)(hn:n≤10)
  (hrea:isR (w.R i).rea) (hw:0≤(w.R i).worth∧(w.R i).worth≤858993459200) (hg0:0≤x.c.grade) (hA:L.A=some ⟨b,0,none⟩) (hi:i<w.s.R.length):
  d8 Tryz.prog 104 [.pointer (some ⟨L.p,0,none⟩),.pointer (some ⟨b,i*14,none⟩),.agg x.enc.toArray] h fun v h'=>resM h0 L C (.slice Au U.length cu) l (a7o C.ps C.ss U w x.c i) v h':=by
 have hul:=hD.ul
 obtain⟨hlen,hglen⟩:=W.len _ (C5 hi)
 have hok:=W.rr _ (C5 hi)
 have hinj:=b4h hok.1
 have hd:a7o C.ps C.ss U w x.c i=if(w.R i).state≠4 then .error 8 else if 4<x.c.grade then .error 1 else match(w.R i).us.findIdx? fun u=>decide (u=x.c.unit)with
  |none=> .error 7
  |some j=>if(w.R i).gs.getD j 0≠-1 then .error 8 else if x.c.grade=4 then .error 1 else .ok (a3Q C.ps C.ss U w x.c i j):=rfl
 rw[hd]
 clear hd
 refine EN i104.eq_1 fun K hK=>Wa ?_
 (revert S;(try clear F);refine AL fun g h S F=> ?_)
 have S:St h0 h (n9 L C (.slice Au U.length cu) w::d9 g x.enc 44::l):=S.p1
 have F:=S.p1.fx
 have q6:=S.mrRet hA hi (j:=6) (by omega) (by omega)
 simp only[i0.enc,l_o,l_p]at q6
 by_cases k1:(w.R i).state=4
 case neg=>
  rw[if_pos k1]at hK
  refine Wc q6 k1 ?_
  exact hK _ _ ⟨by decide,rfl,S.tl.tl⟩
 rw[if_neg (fun h=>h k1)]at hK
 by_cases k2:4<x.c.grade
 ·rw[if_pos k2]at hK
  refine Wf q6 k1 F @j0.enc.eq_1 k2 ?_
  exact hK _ _ ⟨by decide,rfl,S.tl.tl⟩
 rw[if_neg k2]at hK
 obtain⟨A8,c8,q8,hus⟩:=S.mrUs hA hi
 refine Wg q6 k1 F @j0.enc.eq_1 k2 q8 ?_
 refine LKp (Nat.zero_add 0) [0,1,5,23] (fun ρ h'=>∃j:Nat,ρ 24= .int .i64 j∧j≤(w.R i).us.length∧((ρ 7= .int .i64 (-1)∧∀j',j'<j→(w.R i).us.getD j' 0≠x.c.unit)∨∃a:Nat,a<j∧(w.R i).us.getD a 0=x.c.unit∧ρ 7= .int .i64 a)∧h'=h) (fun ρ _=>(w.R i).us.length-(iv (ρ 24)).toNat) ?_ ?_
 ·refine Wa ?_
  exact⟨0,rfl,by omega,.inl fun j' h=>absurd h (by omega)⟩
 rintro ρ h J ⟨e0,e1,e5,e23⟩ hJ ⟨j,e24,hj,hat,rfl⟩
 refine Wc e23 e24 ?_
 refine cD (fun hlt=> ?_) (fun hlt=> ?_)
 ·have hjl:j<(w.R i).us.length:=by omega
  obtain⟨b1,o1,rfl,q1⟩:=hus.at hjl
  have q1:=rP0 q1 (by omega)
  simp only[i6,l_o,m9]at q1
  rw[←l7]at q1
  by_cases d:(w.R i).us.getD j 0=x.c.unit
  ·refine Wa ?_
   refine dE ?_
   refine Wi e1 e5 e24 q8 q1 F @j0.enc.eq_1 (Pc d @m9) ?_
   refine hJ _ _ ?_ ?_
   ·refine Wa ?_
    exact⟨j+1,rfl,by omega,.inr ⟨j,by omega,d,rfl⟩⟩
   ·refine Wb e24 ?_
    omega
  ·refine Wa ?_
   refine dE ?_
   refine Wi e1 e5 e24 q8 q1 F @j0.enc.eq_1 (Pc d @m9) ?_
   refine hJ _ _ ?_ ?_
   ·refine Wa ?_
    refine⟨j+1,rfl,by omega,?_⟩
    rcases hat with⟨e7,hno⟩|⟨a,ha,hau,e7⟩
    ·refine .inl ⟨e7,fun j' hj'=> ?_⟩
     by_cases e:j'=j
     ·rw[e];exact d
     ·exact hno j' (by omega)
    ·exact .inr ⟨a,by omega,hau,e7⟩
   ·refine Wb e24 ?_
    omega
 obtain rfl:j=(w.R i).us.length:=by omega
 clear hJ e23 e24 hj hlt
 rcases hat with⟨e7,hno⟩|⟨a,ha,hau,e7⟩
 ·have hf:(w.R i).us.findIdx? (fun u=>decide (u=x.c.unit))=none:=b1L fun hm=>by
   obtain⟨j',hj',e⟩:=R7 hm
   exact hno j' hj' (by rw[l7 hj',e])
  simp only[hf]at hK
  refine Wb e7 ?_
  exact hK _ _ ⟨by decide,rfl,S.tl.tl⟩
 have hf:(w.R i).us.findIdx? (fun u=>decide (u=x.c.unit))=some a:=b1M ha (fun j' hj' e=>by have:=hinj j' (by omega) a ha (by rw[e,hau]);omega) hau
 simp only[hf]at hK
 have hag:a<(w.R i).gs.length:=by omega
 obtain⟨bg,dg,q9,hgs,-⟩:=S.moGs hA hi (by omega)
 obtain⟨b2,o2,e2,q2⟩:=hgs.at hag
 cases e2
 have q2:=rP0 q2 (by omega)
 simp only[i6,l_o,m9,Nat.zero_add]at q2
 rw[←l7]at q2
 by_cases k3:(w.R i).gs.getD a 0= -1
 case neg=>
  rw[if_pos k3]at hK
  refine Wg e1 e7 q9 q2 @m9 k3 ?_
  exact hK _ _ ⟨by decide,rfl,S.tl.tl⟩
 rw[if_neg (fun h=>h k3)]at hK
 by_cases k4:x.c.grade=4
 ·rw[if_pos k4]at hK
  refine Wi e1 e5 e7 q9 q2 @m9 k3 (Pd F @j0.enc.eq_1 k4) ?_
  exact hK _ _ ⟨by decide,rfl,S.tl.tl⟩
 rw[if_neg k4]at hK
 obtain⟨un,hun⟩:∃un:Nat,x.c.unit=un:=by
  have:=(hok.1.2.2 a ha).1.1
  rw[hau]at this
  exact l_u this
 have hunU:un<U.length:=by
  have:=hok.2 _ (l_v ha)
  rw[←l7 ha,hau,hun]at this
  omega
 obtain⟨gn,hgn⟩:=l_u hg0
 have hgn4:gn<4:=by omega
 refine Wi e0 e1 e5 e7 q9 q2 @m9 (Pf k3 F @j0.enc.eq_1 k4 hun) ?_
 refine cI (a3X un hunU (fun h' S=>hc h' S.tl) (fun h' S=>hu h' S.tl) hD S) ?_
 clear S F q6 q8 q9 q2 hus hgs
 rintro _ h ⟨rfl,S⟩
 obtain⟨P,hP⟩:∃P,P=C8 C.ps (j9 U (un:Int)).cat:=⟨_,rfl⟩
 have hPr:P.right:=hP▸K8 hD.cfg.1 _
 have hsh:=L0 hD.sh (un:Int)
 have hwr:=a3s (r:=(w.R i).rea) (g:=x.c.grade) hPr hsh.1
 have hto:=b9b hPr x.c.grade
 have hQ:a3Q C.ps C.ss U w x.c i a=let w2:=if P.gto x.c.grade≠0 then(w.put i {w.R i with gs:=(w.R i).gs.set a x.c.grade,worth:=(w.R i).worth+wrt P (j9 U (un:Int)).share (w.R i).rea x.c.grade}).mv un (P.gto x.c.grade)else I4 ((w.put i {w.R i with gs:=(w.R i).gs.set a x.c.grade,worth:=(w.R i).worth+wrt P (j9 U (un:Int)).share (w.R i).rea x.c.grade}).mv un 8) 4 (w.R i).num un
   if(w2.R i).gs.contains (-1)=true then w2 else N2 C.ss w2 i:=by
  rw[hP]
  unfold a3Q
  simp only[hun]
 rw[hQ]at hK
 clear hQ
 rw[←hP]
 clear hP
 refine Wa ?_
 refine tA S ?_
 clear S
 intro q h S
 replace S:=S.nm
 refine Wb @Pol.enc.eq_1 ?_
 (revert S;(try clear F);refine ST fun h S F=> ?_)
 have S:St h0 h (n9 L C (.slice Au U.length cu) w::d9 q P.enc 83::d9 g x.enc 44::l):=S.p1
 clear F
 have F:∀off,rd1 h (.pointer (some ⟨g,off,none⟩))=x.enc[off]? :=fun off=>j3 S.p2.blk
 obtain⟨bg,dg,q9,-,hst⟩:=S.moGs hA hi (by omega)
 refine Wa ?_
 refine dE ?_
 refine Wg e1 e5 e7 q9 F @j0.enc.eq_1 ?_
 refine hst a _ x.c.grade _ _ _ hag (by rw[m9]) ?_
 clear S F q9 hst
 intro h S
 obtain⟨w1,hw1⟩:∃w1,w1=w.put i {w.R i with gs:=(w.R i).gs.set a x.c.grade}:=⟨_,rfl⟩
 have hR1:w1.R i={w.R i with gs:=(w.R i).gs.set a x.c.grade}:=by rw[hw1];exact E0 hi
 have hi1:i<w1.s.R.length:=by rw[hw1,o7];exact hi
 have B1:Bnd n w1:=by rw[hw1];exact B.putR rfl rfl rfl
 have W1:w1.wf U m:=by rw[hw1];exact W.put ⟨Y4 hok.1 (by unfold btw;omega),hok.2⟩
 have hP1:∀N:Int,w.put i {w.R i with gs:=(w.R i).gs.set a x.c.grade,worth:=N}=w1.put i {w1.R i with worth:=N}:=fun N=>by rw[hR1,hw1,b5t]
 rw[←hw1]at S
 simp only[hP1]at hK
 have hnum:(w1.R i).num=(w.R i).num:=by rw[hR1]
 have hre:(w1.R i).rea=(w.R i).rea:=by rw[hR1]
 have hwo:(w1.R i).worth=(w.R i).worth:=by rw[hR1]
 have hgl:(w1.R i).gs.length=(w.R i).gs.length:=by rw[hR1];exact T3
 rw[←hnum,←hre,←hwo]at hK
 rw[←hre]at hrea hwr
 rw[←hwo]at hw
 clear hP1 hw1 hR1
 obtain⟨LO,hLO⟩:∃LO,LO=(n9 L C (.slice Au U.length cu) w1::d9 q P.enc 83::d9 g x.enc 44::l):=⟨_,rfl⟩
 have hLs:∀h',St h0 h' LO→St h0 h' l:=fun h' S=>by rw[hLO]at S;exact S.tl.tl.tl
 obtain⟨b4,o4,hA4,-⟩:=(hu _ S.tl.tl.tl).at hunU
 rw[←hLO]at S
 have r10:∀K t,j8 (fun h'=>St h0 h' LO) (fun h'=>rd1 h' (.pointer (some ⟨b,i*14+10,none⟩))) K t=K (.int .i64 (w1.R i).worth):=fun K t=>rI (fun h' S=>by rw[hLO]at S;exact S.mrRet hA hi1 (j:=10) (by omega) (by omega)) h S
 have r2:∀K t,j8 (fun h'=>St h0 h' LO) (fun h'=>rd1 h' (.pointer (some ⟨b,i*14+2,none⟩))) K t=K (.int .i64 (w1.R i).rea):=fun K t=>rI (fun h' S=>by rw[hLO]at S;exact S.mrRet hA hi1 (j:=2) (by omega) (by omega)) h S
 have r3:∀K t,j8 (fun h'=>St h0 h' LO) (fun h'=>rd1 h' (.pointer (some ⟨L.p,3,none⟩))) K t=K (.slice (some ⟨b4,o4,none⟩) U.length cu):=fun K t=>rI (fun h' S=>by rw[hLO]at S;rw[S.mrU,hA4]) h S
 have r7:∀K t,j8 (fun h'=>St h0 h' LO) (fun h'=>rd1 h' (.pointer (some ⟨g,7,none⟩))) K t=K (.int .i64 un):=fun K t=>rI (fun h' S=>by rw[hLO]at S;rw[j3 S.p2.blk,←hun];rfl) h S
 have r8:∀K t,j8 (fun h'=>St h0 h' LO) (fun h'=>rd1 h' (.pointer (some ⟨g,8,none⟩))) K t=K (.int .i64 x.c.grade):=fun K t=>rI (fun h' S=>by rw[hLO]at S;rw[j3 S.p2.blk];rfl) h S
 have rPo:∀K t,j8 (fun h'=>St h0 h' LO) (fun h'=>i7 (rdN h' q 0 16) fun cs=>some (.agg cs.toArray)) K t=K (.agg P.enc.toArray):=fun K t=>rI (fun h' S=>by rw[hLO]at S;rw[v8 S.p1.blk (l_a rfl)];rfl) h S
 have rU:∀K t,j8 (fun h'=>St h0 h' LO) (fun h'=>rd1 h' (.pointer (some ⟨b4,o4+un*4+3,none⟩))) K t=K (.int .i64 (j9 U (un:Int)).share):=fun K t=>rI (fun h' S=>by
  obtain⟨b5,o5,hA5,q5⟩:=(hu _ (hLs _ S)).at hunU
  rw[hA4]at hA5
  cases hA5
  have p3:=rP q5 3 (by omega)
  rw[p3,show j9 U (un:Int)=U[un] by rw[j9,K0,l_s,l_r hunU];rfl]
  rfl) h S
 refine Wa ?_
 refine dI (fun h'=>St h0 h' LO) S ?_
 refine Wi e0 e1 e5 r10 r2 r3 r7 (Pd r8 rPo rU) ?_
 clear r10 r2 r3 r7 r8 rPo rU hLs
 refine cI (b6f P (j9 U (un:Int)).share (w1.R i).rea x.c.grade hPr hrea ⟨by omega,by omega⟩ hsh.1 (by omega) _) ?_
 rintro _ h ⟨rfl,f1⟩
 have S:=S.frame f1
 clear f1
 refine⟨S,?_⟩
 rw[hLO]at S
 clear hLO
 refine Wa ?_
 refine L8 (r':={w1.R i with worth:=(w1.R i).worth+wrt P (j9 U (un:Int)).share (w1.R i).rea x.c.grade}) S hA hi1 (j:=10) (by omega) rfl rfl rfl (fun x hx=>by rw[i0.enc,i0.enc,hx];rfl) ?_
 clear S
 intro h S
 have W3:(w1.put i {w1.R i with worth:=(w1.R i).worth+wrt P (j9 U (un:Int)).share (w1.R i).rea x.c.grade}).wf U m:=W1.putR hi1 rfl rfl
 have B3:Bnd n (w1.put i {w1.R i with worth:=(w1.R i).worth+wrt P (j9 U (un:Int)).share (w1.R i).rea x.c.grade}):=B1.putR rfl rfl rfl
 have hi3:i<(w1.put i {w1.R i with worth:=(w1.R i).worth+wrt P (j9 U (un:Int)).share (w1.R i).rea x.c.grade}).s.R.length:=by rw[o7];exact hi1
 have hR3:(w1.put i {w1.R i with worth:=(w1.R i).worth+wrt P (j9 U (un:Int)).share (w1.R i).rea x.c.grade}).R i={w1.R i with worth:=(w1.R i).worth+wrt P (j9 U (un:Int)).share (w1.R i).rea x.c.grade}:=E0 hi1
 generalize hw3:w1.put i {w1.R i with worth:=(w1.R i).worth+wrt P (j9 U (un:Int)).share (w1.R i).rea x.c.grade}=w3 at*
 have hn3:(w3.R i).num=(w1.R i).num:=by rw[hR3]
 have hwo3:0≤(w3.R i).worth∧(w3.R i).worth≤2199023255552:=by rw[hR3];exact⟨by show 0≤(w1.R i).worth+_;omega,by show(w1.R i).worth+_≤_;omega⟩
 rw[←hn3]at hK
 have hg3:0<(w3.R i).gs.length:=by rw[hR3];show 0<(w1.R i).gs.length;omega
 clear hw3 hR3 W1 B1 hi1 W B
 have hkl:=W3.kl
 have hgt:rd1 h (.pointer (some ⟨q,8+gn*2+1,none⟩))=some (.int .i64 (P.gto x.c.grade)):=by rw[j3 S.p1.blk,c3X P hgn4,hgn]
 have F:∀off,rd1 h (.pointer (some ⟨g,off,none⟩))=x.enc[off]? :=fun off=>j3 S.p2.blk
 obtain⟨T,hT⟩:∃T,T=P.gto x.c.grade:=⟨_,rfl⟩
 rw[←hT]at hgt hto
 simp only[←hT]at hK
 clear hT
 refine Wf e5 F @j0.enc.eq_1 hgn hgt ?_
 refine cC (fun ρ' h'=>ρ' 0= .pointer (some ⟨L.p,0,none⟩)∧ρ' 1= .pointer (some ⟨b,i*14,none⟩)∧∃w4:Wk,w4.wf U (m+1)∧Bnd n w4∧w4.R i=w3.R i∧w4.s.R.length=w3.s.R.length∧St h0 h' (n9 L C (.slice Au U.length cu) w4::d9 q P.enc 83::d9 g x.enc 44::l)∧
  (if T≠0 then w3.mv un T else I4 (w3.mv un 8) 4 (w3.R i).num un)=w4) ?_ ?_ ?_
 ·intro hb J hJ
  have hT:T=0:=Classical.byContradiction fun e=>by rw[dF e]at hb;cases hb
  refine Wf e0 e5 F @j0.enc.eq_1 hun ?_
  refine cV (Q3 (un:Int) 8 S (by omega)) ?_
  clear S F hgt
  intro h S
  have q0:rd1 h (.pointer (some ⟨b,i*14+0,none⟩))=some (.int .i64 (w3.R i).num):=S.mrRet hA hi3 (by omega) (by omega)
  rw[H8]at q0
  have F:∀off,rd1 h (.pointer (some ⟨g,off,none⟩))=x.enc[off]? :=fun off=>j3 S.p2.blk
  refine Wa ?_
  refine dE ?_
  refine Wh e0 e1 e5 q0 F @j0.enc.eq_1 hun ?_
  refine cV (a6C 4 (w3.R i).num (un:Int) S (W3.mv _ _) (by omega)) ?_
  clear S F q0
  intro h S
  refine Wa ?_
  refine hJ _ _ ?_
  refine Wc e0 e1 ?_
  exact⟨_,(W3.mv _ _).say _ _ _,(B3.mv _ _).say _ _ _,rfl,rfl,S,if_neg (fun h=>h hT)⟩
 ·intro hb J hJ
  have hT:T≠0:=fun e=>by rw[dT e]at hb;cases hb
  refine Wa ?_
  refine dE ?_
  refine Wh e0 e5 F @j0.enc.eq_1 hun hgn hgt ?_
  refine cV (Q3 (un:Int) T S (by omega)) ?_
  clear S F hgt
  intro h S
  refine Wa ?_
  refine hJ _ _ ?_
  refine Wc e0 e1 ?_
  exact⟨_,(W3.mv _ _).up (by omega),B3.mv _ _,rfl,rfl,S,if_pos hT⟩
 clear S F hgt
 rintro ρ' h ⟨p0,p1,w4,W4,B4,hR4,hl4,S,hw4⟩
 simp only[hw4]at hK
 rw[←hR4]at hwo3 hg3
 have hi4:i<w4.s.R.length:=by omega
 clear hw4 hR4 hl4 W3 B3
 obtain⟨hlen4,hglen4⟩:=W4.len _ (C5 hi4)
 obtain⟨bg,dg,q9,hgs,-⟩:=S.moGs hA hi4 hg3
 refine Wc p1 q9 ?_
 refine LKp (Pc p0 p1) [0,1,125] (fun ρ h'=>∃j:Nat,ρ 126= .int .i64 j∧j≤(w4.R i).gs.length∧(∀j',j'<j→(w4.R i).gs.getD j' 0≠-1)∧h'=h) (fun ρ _=>(w4.R i).gs.length-(iv (ρ 126)).toNat) ?_ ?_
 ·refine Wa ?_
  exact⟨0,rfl,by omega,fun j' h=>absurd h (by omega)⟩
 rintro ρ2 h J ⟨e0,e1,e125⟩ hJ ⟨j,e126,hj,hno,rfl⟩
 refine Wc e125 e126 ?_
 refine cD (fun hlt=> ?_) (fun hlt=> ?_)
 ·have hjl:j<(w4.R i).gs.length:=by omega
  obtain⟨b1,o1,e,q1⟩:=hgs.at hjl
  cases e
  have q1:=rP0 q1 (by omega)
  simp only[i6,l_o,m9,Nat.zero_add]at q1
  rw[←l7]at q1
  by_cases d:(w4.R i).gs.getD j 0= -1
  ·refine Wg e1 e126 q9 q1 @m9 d ?_
   rw[if_pos (by rw[List.contains_iff_mem,←d,l7 hjl];exact l_v hjl)]at hK
   exact hK _ _ ⟨rfl,S.d1.d1⟩
  ·refine Wg e1 e126 q9 q1 @m9 d ?_
   refine hJ _ _ ?_ ?_
   ·refine Wa ?_
    refine⟨j+1,rfl,by omega,fun j' hj'=> ?_⟩
    by_cases e:j'=j
    ·rw[e];exact d
    ·exact hno j' (by omega)
   ·refine Wb e126 ?_
    omega
 obtain rfl:j=(w4.R i).gs.length:=by omega
 rw[if_neg (fun h=>by
  rw[List.contains_iff_mem]at h
  obtain⟨j',hj',e⟩:=R7 h
  exact hno j' hj' (by rw[l7 hj',e]))]at hK
 refine Wc e0 e1 ?_
 refine cV (a7Z (fun h' S=>hc h' S.tl.tl) hD S W4 (by omega) B4 (by omega) hwo3 hA hi4) ?_
 clear S
 intro h S
 refine Wa ?_
 exact hK _ _ ⟨rfl,S.d1.d1⟩
end
end
section
set_option maxHeartbeats 8000000
theorem a5n{α:Type}{f:α→Int}:∀{L:List α},(∀x∈L,f x=0)→a0t f L=0
 | [],_=>rfl
 |x::L,h=>by rw[a0t,if_pos (h x (by simp))];exact a5n fun y hy=>h y (by simp[hy])
theorem a5m{α:Type}{f:α→Int}:∀{L:List α}{i:Nat} (hi:i<L.length),(∀x∈L.take i,f x=0)→f L[i]≠0→a0t f L=f L[i]
 | [],i,hi,_,_=>absurd hi (by simp)
 |x::L,0,_,_,h=>by simp only[List.getElem_cons_zero]at h⊢;rw[a0t,if_neg h]
 |x::L,i+1,hi,h1,h2=>by
  have hx:f x=0:=h1 x (by simp)
  simp only[List.getElem_cons_succ]at h2⊢
  rw[a0t,if_pos hx]
  exact a5m (by simpa using hi) (fun y hy=>h1 y (by simp[hy])) h2
section
variable{h0 h:c9}{l:List HP}{L:Loc}{D:Cfg}{w:Wk}{U:List Unt}{m b i:Nat}{Au:Option Addr}{cu:Nat}
theorem b7t(x:j0)(hc:∀h',St h0 h' l→D.rd h')(hu:∀h',St h0 h' l→Arr Unt.enc 4 h' Au U)(hx:∀h',St h0 h' l→Arr i6 1 h' x.A x.c.us)(hxl:x.c.us.length<1000000)(hD:Stc D U)(ho:0≤x.c.ord∧x.c.ord<D.os.length)
  (S:St h0 h (wkA L D (.slice Au U.length cu) w::l)) (W:w.wf U m):
  d8 Tryz.prog 134 [.pointer (some ⟨L.p,0,none⟩),.agg x.enc.toArray] h fun v h'=>v= .int .i64 (N6 D.ps D.os U w.s x.c)∧St h0 h' (wkA L D (.slice Au U.length cu) w::l):=by
 have hul:=hD.ul
 have hol:=hD.cfg.2.1
 have hnow:=W.now
 have hd:N6 D.ps D.os U w.s x.c=if dcd (∀i,i<x.c.us.length→E6 U x.c i)=false then 1 else if x.c.rea<0∨4≤x.c.rea∨1000<x.c.want then 1 else a0t (G1 D.ps D.os U w.s x.c) x.c.us:=rfl
 generalize N6 D.ps D.os U w.s x.c=E at*
 refine EN i134.eq_1 fun K hK=>Wa ?_
 (revert S;(try clear F);refine AL fun g h S F=> ?_)
 have S:St h0 h (wkA L D (.slice Au U.length cu) w::d9 g x.enc 42::l):=S.p1
 ((try clear F);have F:=S.fx)
 refine Wc F @j0.enc.eq_1 ?_
 refine lI (fun ρ h'=>ρ 0= .pointer (some ⟨L.p,0,none⟩)∧ρ 3= .pointer (some ⟨g,0,none⟩)∧ρ 11= .slice x.A x.c.us.length x.n∧ρ 12= .int .i64 x.c.us.length∧∃i:Nat,ρ 13= .int .i64 i∧i≤x.c.us.length∧(∀j,j<i→E6 U x.c j)∧
  St h0 h' (wkA L D (.slice Au U.length cu) w::d9 g x.enc 42::l)) (fun ρ _=>x.c.us.length-(iv (ρ 13)).toNat) ?_ ?_
 ·refine Wa ?_
  exact⟨0,rfl,by omega,fun j hj=>absurd hj (by omega),S⟩
 clear S F
 rintro ρ h J hJ ⟨e0,e3,e11,e12,i,e13,hi,hok,S⟩
 refine Wc e12 e13 ?_
 refine cD (fun hlt=> ?_) (fun hlt=> ?_)
 ·have hil:i<x.c.us.length:=by omega
  obtain⟨b1,o1,hA1,q1⟩:=(hx _ S.tl.tl).at hil
  have q1:=rP0 q1 (by omega)
  simp only[i6,l_o,m9]at q1
  rw[←l7]at q1
  have hbad:¬E6 U x.c i→E=1:=fun hn=>by rw[hd,if_pos (dF fun h=>hn (h i hil))]
  have hgo:E6 U x.c i→∀j,j<i+1→E6 U x.c j:=fun hx j hj=>by
   by_cases e:j=i
   ·rw[e];exact hx
   ·exact hok j (by omega)
  have hU:E6 U x.c i↔((0<i→x.c.us.getD (i-1) 0<x.c.us.getD i 0)∧0≤x.c.us.getD i 0∧x.c.us.getD i 0<U.length∧(j9 U (x.c.us.getD i 0)).ord=x.c.ord):=Iff.rfl
  obtain⟨sd,M,Sc,_⟩:=S.wkCell
  have F2:=Sc.fx
  ((try clear F);have F:=S.fx)
  have q4':∀n:Nat,n<U.length→∃b4 o4,Au=some ⟨b4,o4,none⟩∧rd1 h (.pointer (some ⟨b4,o4+n*4,none⟩))=some (.int .i64 (j9 U n).ord):=fun n hn=>by
   obtain⟨b4,o4,hA4,q4⟩:=(hu _ S.tl.tl).at hn
   have q40:=rP0 q4 (by omega)
   simp only[Unt.enc,l_o]at q40
   refine⟨b4,o4,hA4,?_⟩
   have hat:j9 U (n:Int)=U[n]:=by rw[j9,K0,l_s,l_r hn];rfl
   rw[hat]
   exact q40
  by_cases c2:0<i
  ·obtain⟨j,rfl⟩:∃j,i=j+1:=⟨i-1,by omega⟩
   obtain⟨b3,o3,hA3,q3⟩:=(hx _ S.tl.tl).at (i:=j) (by omega)
   rw[hA1]at hA3
   cases hA3
   have q3:=rP0 q3 (by omega)
   simp only[i6,l_o,m9]at q3
   rw[←l7]at q3
   have hj1:((j+1:Nat):Int)-1=(j:Int):=by omega
   have hj0:(0:Int)<((j+1:Nat):Int):=by omega
   rw[a4E]at hU
   generalize x.c.us.getD (j+1) 0=u at*
   generalize x.c.us.getD j 0=u' at*
   by_cases c3:u≤u'
   ·refine Wf e11 e13 hA1 q1 @m9 ?_
    refine dE ?_
    refine Wi e3 F @j0.enc.eq_1 hA1 hj0 hj1 q3 (Pc c3 @m9) ?_
    exact hK _ _ ⟨by rw[hbad fun h=>by have:=(hU.1 h).1 (by omega);omega],S.d1⟩
   by_cases c4:u<0
   ·refine Wf e11 e13 hA1 q1 @m9 ?_
    refine dE ?_
    refine Wi e3 F @j0.enc.eq_1 hA1 hj0 hj1 q3 (Pd c3 @m9 c4) ?_
    exact hK _ _ ⟨by rw[hbad fun h=>by have:=(hU.1 h).2.1;omega],S.d1⟩
   by_cases c5:(U.length:Int)≤u
   ·refine Wf e11 e13 hA1 q1 @m9 ?_
    refine dE ?_
    refine Wi e0 e3 F F2 @t8.eq_1 @j0.enc.eq_1 hA1 (Pf hj0 hj1 q3 c3 (Pd @m9 c4 c5)) ?_
    exact hK _ _ ⟨by rw[hbad fun h=>by have:=(hU.1 h).2.2.1;omega],S.d1⟩
   obtain⟨n,rfl⟩:=l_u (by omega:0≤u)
   obtain⟨b4,o4,hA4,q4⟩:=q4' n (by omega)
   by_cases c6:(j9 U n).ord=x.c.ord
   case neg=>
    refine Wf e11 e13 hA1 q1 @m9 ?_
    refine dE ?_
    refine Wi e0 e3 F F2 @t8.eq_1 @j0.enc.eq_1 hA1 (Pf hA4 hj0 hj1 q3 (Pf q4 c3 @m9 c4 (Pc c5 c6))) ?_
    exact hK _ _ ⟨by rw[hbad fun h=>c6 (hU.1 h).2.2.2],S.d1⟩
   refine Wf e11 e13 hA1 q1 @m9 ?_
   refine dE ?_
   refine Wi e0 e3 F F2 @t8.eq_1 @j0.enc.eq_1 hA1 (Pf hA4 hj0 hj1 q3 (Pf q4 c3 @m9 c4 (Pd c5 c6 e13))) ?_
   refine hJ _ _ ?_ ?_
   ·refine Wf e0 e3 e11 e12 hA1 ?_
    exact⟨j+1+1,rfl,by omega,hgo (hU.2 ⟨fun _=>by omega,by omega,by omega,c6⟩),S⟩
   ·refine Wb e13 ?_
    omega
  ·obtain rfl:i=0:=by omega
   rw[H8]at q1
   generalize x.c.us.getD 0 0=u at*
   by_cases c4:u<0
   ·refine Wf e11 e13 hA1 q1 @m9 ?_
    refine dE ?_
    refine Wg e3 F @j0.enc.eq_1 hA1 @m9 c4 ?_
    exact hK _ _ ⟨by rw[hbad fun h=>by have:=(hU.1 h).2.1;omega],S.d1⟩
   by_cases c5:(U.length:Int)≤u
   ·refine Wf e11 e13 hA1 q1 @m9 ?_
    refine dE ?_
    refine Wi e0 e3 F F2 @t8.eq_1 @j0.enc.eq_1 hA1 (Pd @m9 c4 c5) ?_
    exact hK _ _ ⟨by rw[hbad fun h=>by have:=(hU.1 h).2.2.1;omega],S.d1⟩
   obtain⟨n,rfl⟩:=l_u (by omega:0≤u)
   obtain⟨b4,o4,hA4,q4⟩:=q4' n (by omega)
   by_cases c6:(j9 U n).ord=x.c.ord
   case neg=>
    refine Wf e11 e13 hA1 q1 @m9 ?_
    refine dE ?_
    refine Wi e0 e3 F F2 @t8.eq_1 @j0.enc.eq_1 hA1 (Pf hA4 q4 @m9 c4 (Pc c5 c6)) ?_
    exact hK _ _ ⟨by rw[hbad fun h=>c6 (hU.1 h).2.2.2],S.d1⟩
   refine Wf e11 e13 hA1 q1 @m9 ?_
   refine dE ?_
   refine Wi e0 e3 F F2 @t8.eq_1 @j0.enc.eq_1 hA1 (Pf hA4 q4 @m9 c4 (Pd c5 c6 e13)) ?_
   refine hJ _ _ ?_ ?_
   ·refine Wf e0 e3 e11 e12 hA1 ?_
    exact⟨1,rfl,by omega,hgo (hU.2 ⟨fun h=>absurd h (by omega),by omega,by omega,c6⟩),S⟩
   ·refine Wb e13 ?_
    omega
 obtain rfl:i=x.c.us.length:=by omega
 rw[if_neg (by rw[dT hok];decide)]at hd
 ((try clear F);have F:=S.fx)
 by_cases k1:x.c.rea<0
 ·rw[if_pos (.inl k1)]at hd
  refine We e3 F @j0.enc.eq_1 k1 ?_
  exact hK _ _ ⟨by rw[hd],S.d1⟩
 by_cases k2:4≤x.c.rea
 ·rw[if_pos (.inr (.inl k2))]at hd
  refine Wf e3 F @j0.enc.eq_1 k1 k2 ?_
  exact hK _ _ ⟨by rw[hd],S.d1⟩
 by_cases k3:1000<x.c.want
 ·rw[if_pos (.inr (.inr k3))]at hd
  refine Wg e3 F @j0.enc.eq_1 k1 k2 k3 ?_
  exact hK _ _ ⟨by rw[hd],S.d1⟩
 rw[if_neg (fun h=>h.elim k1 fun h=>h.elim k2 k3)]at hd
 refine Wg e3 F @j0.enc.eq_1 k1 k2 k3 ?_
 clear e11 e12 e13 hi hlt F
 have p0:=e0
 have p3:=e3
 clear e0 e3
 refine lI (fun ρ h'=>ρ 0= .pointer (some ⟨L.p,0,none⟩)∧ρ 3= .pointer (some ⟨g,0,none⟩)∧ρ 71= .slice x.A x.c.us.length x.n∧ρ 72= .int .i64 x.c.us.length∧∃i:Nat,ρ 73= .int .i64 i∧i≤x.c.us.length∧(∀u∈x.c.us.take i,G1 D.ps D.os U w.s x.c u=0)∧
  St h0 h' (wkA L D (.slice Au U.length cu) w::d9 g x.enc 42::l)) (fun ρ _=>x.c.us.length-(iv (ρ 73)).toNat) ?_ ?_
 ·refine Wc p0 p3 ?_
  exact⟨0,rfl,by omega,by simp,S⟩
 clear S p0 p3
 rintro ρ h J hJ ⟨e0,e3,e71,e72,i,e73,hi,hno,S⟩
 refine Wc e72 e73 ?_
 refine cD (fun hlt=> ?_) (fun hlt=> ?_)
 ·have hil:i<x.c.us.length:=by omega
  obtain⟨b1,o1,hA1,q1⟩:=(hx _ S.tl.tl).at hil
  have q1:=rP0 q1 (by omega)
  simp only[i6,l_o,m9]at q1
  have hbad:G1 D.ps D.os U w.s x.c x.c.us[i]≠0→E=G1 D.ps D.os U w.s x.c x.c.us[i]:=fun hn=>by rw[hd];exact a5m hil hno hn
  have hgo:G1 D.ps D.os U w.s x.c x.c.us[i]=0→∀u∈x.c.us.take (i+1),G1 D.ps D.os U w.s x.c u=0:=fun hx r hr=>by
   rw[l_t hil]at hr
   rcases List.mem_append.1 hr with hr|hr
   ·exact hno r hr
   ·rw[U1]at hr;rw[hr];exact hx
  obtain⟨_,hu0,huU,_⟩:=hok i hil
  rw[l7 hil]at hu0 huU
  generalize x.c.us[i]=u at*
  obtain⟨n,rfl⟩:=l_u hu0
  obtain⟨Q,hQ⟩:∃Q,Q=G1 D.ps D.os U w.s x.c n:=⟨_,rfl⟩
  have hw:Q=if i5 w.s.K n≠0∨0<L3 w.s n then 13 else b1V (C8 D.ps (j9 U n).cat) (w.s.now-((D.os[x.c.ord.toNat]?).map Odr.day).getD 0) (decide (0<x.c.want)):=hQ
  rw[←hQ]at hbad hgo
  clear hQ
  obtain⟨sd,M,Sc,_⟩:=S.wkCell
  have F2:=Sc.fx
  refine Wi e0 e71 e73 hA1 q1 F2 @t8.eq_1 @m9 ?_
  clear F2 Sc
  obtain⟨M,Sk,_⟩:=S.wkStock
  refine cI (a2W (n:Int) Sk) ?_
  clear Sk
  rintro _ _ ⟨rfl,rfl⟩
  by_cases d1:i5 w.s.K n=0
  case neg=>
   rw[if_pos (.inl d1)]at hw
   refine Wb d1 ?_
   exact hK _ _ ⟨by rw[hbad (by rw[hw];decide),hw],S.d1⟩
  refine Wc d1 e0 ?_
  refine cI (b6O (n:Int) S W) ?_
  clear S
  rintro _ h ⟨rfl,S⟩
  by_cases d2:0<L3 w.s n
  ·rw[if_pos (.inr d2)]at hw
   refine Wb d2 ?_
   exact hK _ _ ⟨by rw[hbad (by rw[hw];decide),hw],S.d1⟩
  rw[if_neg (fun h=>h.elim (fun h=>h d1) d2)]at hw
  refine Wb d2 ?_
  obtain⟨k,hk⟩:=l_u ho.1
  have hkl:k<D.os.length:=by omega
  rw[hk,K0,l_r hkl]at hw
  simp only[Option.map_some,Option.getD_some]at hw
  have hday:=(hD.cfg.2.2.2.1 _ (l_v hkl)).1.1
  obtain⟨bo,oo,hAo,_⟩:=(hc _ S.tl.tl).os.at hkl
  have hqd:∀h',St h0 h' l→rd1 h' (.pointer (some ⟨bo,oo+k*5,none⟩))=some (.int .i64 (D.os[k]).day):=fun h' S=>by
   obtain⟨b5,o5,hA5,q5⟩:=(hc _ S).os.at hkl
   rw[hAo]at hA5
   cases hA5
   have p5:=rP0 q5 (by omega)
   simpa only[Odr.enc,l_o]using p5
  generalize D.os[k]=o at*
  have hcell:∀h',St h0 h' (wkA L D (.slice Au U.length cu) w::d9 g x.enc 42::l)→∃sd,blk h' L.p=some (t8 D (.slice Au U.length cu) L.k L.t L.o (.slice L.A w.s.R.length L.c) sd w.s,113,(0,0)):=fun h' S=>by
   obtain⟨sd,M,Sc,_⟩:=S.wkCell
   exact⟨sd,Sc.blk⟩
  have r13:∀K t,j8 (fun h'=>St h0 h' (wkA L D (.slice Au U.length cu) w::d9 g x.enc 42::l)) (fun h'=>rd1 h' (.pointer (some ⟨L.p,13,none⟩))) K t=K (.int .i64 w.s.now):=fun K t=>rI (fun h' S=>by obtain⟨sd,hb⟩:=hcell _ S;rw[j3 hb];rfl) h S
  have r0:∀K t,j8 (fun h'=>St h0 h' (wkA L D (.slice Au U.length cu) w::d9 g x.enc 42::l)) (fun h'=>rd1 h' (.pointer (some ⟨L.p,0,none⟩))) K t=K (.slice (some ⟨bo,oo,none⟩) D.os.length D.c1):=fun K t=>rI (fun h' S=>by obtain⟨sd,hb⟩:=hcell _ S;rw[j3 hb,←hAo];rfl) h S
  have r1:∀K t,j8 (fun h'=>St h0 h' (wkA L D (.slice Au U.length cu) w::d9 g x.enc 42::l)) (fun h'=>rd1 h' (.pointer (some ⟨g,1,none⟩))) K t=K (.int .i64 k):=fun K t=>rI (fun h' S=>by rw[j3 S.tl.blk,←hk];rfl) h S
  have r4:∀K t,j8 (fun h'=>St h0 h' (wkA L D (.slice Au U.length cu) w::d9 g x.enc 42::l)) (fun h'=>rd1 h' (.pointer (some ⟨g,4,none⟩))) K t=K (.int .i64 x.c.want):=fun K t=>rI (fun h' S=>by rw[j3 S.tl.blk];rfl) h S
  have rd:∀K t,j8 (fun h'=>St h0 h' (wkA L D (.slice Au U.length cu) w::d9 g x.enc 42::l)) (fun h'=>rd1 h' (.pointer (some ⟨bo,oo+k*5,none⟩))) K t=K (.int .i64 o.day):=fun K t=>rI (fun h' S=>hqd _ S.tl.tl) h S
  have hPr:=K8 hD.cfg.1 (j9 U n).cat
  obtain⟨wb,hwb⟩:∃wb,wb=decide (0<x.c.want):=⟨_,rfl⟩
  have hwd:dcd (0<x.c.want)=wb:=by
   rw[hwb]
   by_cases e:0<x.c.want
   ·rw[dT e];simp[e]
   ·rw[dF e];simp[e]
  rw[←hwb]at hw
  refine dI (fun h'=>St h0 h' (wkA L D (.slice Au U.length cu) w::d9 g x.enc 42::l)) S ?_
  refine Wi e0 e3 r13 r0 r1 r4 rd hwd ?_
  refine cI (a3Y n (by omega) (fun h' S=>hc h' S.tl) (fun h' S=>hu h' S.tl) S) ?_
  clear S r13 r0 r1 r4 rd hqd hcell
  rintro _ h ⟨rfl,S⟩
  refine⟨S,?_⟩
  refine Wb hwd ?_
  refine cI (c2K _ (w.s.now-o.day) wb hPr _) ?_
  rintro _ h ⟨rfl,f1⟩
  have S:=S.frame f1
  clear f1
  rw[←hw]
  by_cases d3:Q=0
  ·refine Wc d3 e73 ?_
   refine hJ _ _ ?_ ?_
   ·refine Wf e0 e3 e71 e72 hA1 ?_
    exact⟨i+1,rfl,by omega,hgo d3,S⟩
   ·refine Wb e73 ?_
    omega
  ·refine Wb d3 ?_
   exact hK _ _ ⟨by rw[hbad d3],S.d1⟩
 obtain rfl:i=x.c.us.length:=by omega
 rw[C9]at hno
 refine Wa ?_
 exact hK _ _ ⟨by rw[hd,a5n hno],S.d1⟩
end
end
end Go.Proofs.YtjagmebglhbdkaaGreat.MX
