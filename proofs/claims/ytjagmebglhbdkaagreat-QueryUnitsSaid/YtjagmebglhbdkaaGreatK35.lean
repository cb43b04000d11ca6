import Derived.Test.YtjagmebglhbdkaaGreatK34
import Derived.Test.YtjagmebglhbdkaaGreatK25
import Derived.Test.YtjagmebglhbdkaaGreatK24
namespace Go.Proofs.YtjagmebglhbdkaaGreat.MX
open Go Go.Proofs
set_option linter.unusedSimpArgs false
set_option linter.unusedVariables false
section
set_option maxHeartbeats 16000000
structure i5 where
 c:Cmd
 A:Option Addr
 n:Nat
def i5.enc(x:i5):List Value:=[.int .i64 x.c.kind,.int .i64 x.c.ord,.slice x.A x.c.us.length x.n,.int .i64 x.c.rea,.int .i64 x.c.want,.bool x.c.cred,.int .i64 x.c.rma,.int .i64 x.c.unit,.int .i64 x.c.grade,.int .i64 x.c.days,.int .i64 x.c.key,.bool x.c.yes]
theorem b5V{ps:List Pol}{ss:List Sup}{U:List Unt}{w:Wk}{c:Cmd}{i:Nat}(hat:w.s.at_ c.rma=some (w.R i))(hi:(c.rma-1).toNat=i)(h4:(w.R i).state=4):
  T1 ps ss U w c=match N5 (w.R i) c.unit c.grade with
   | .error e=> .error e
   | .ok j=>if c.grade=4 then .error 1 else a0M ps ss U w c i j:=by
 unfold T1
 rw[hat]
 simp only[h4,hi,ne_eq,c3r,if_false]
 rfl
section
variable{h0 h:c9}{l:List HP}{L:Loc}{D:Cfg}{u:Value}{w:Wk}{U:List Unt}{m b i:Nat}
theorem St.wkClose{X:List HP}{sd:Value}{vs:List f9}(hv:vs.map f9.r=w.s.R)(S:St h0 h (X++(d9 L.p (u2 D u L.k L.t L.o (.slice L.A w.s.R.length L.c) sd w.s) 113::s9 L.k w.s.K::H1 L.t w.s.T::E4 L.o w.s.key w.s.O::
  f8 f9.enc 14 136 (.slice L.A w.s.R.length L.c) vs::f8 Msg.enc 6 128 sd w.sd::(vs.map j0++l)))):St h0 h (wkA L D u w::(X++l)):=
 St.wk.2 ⟨sd,vs,hv,S.perm (List.perm_append_comm_assoc X (_::_::_::_::_::_::vs.map j0) l)⟩
theorem b6J{y:f9}{Q:Value→c9→Prop}{s:Tag h}{t:Tag Q}(S:St h0 h (wkA L D u w::j0 y::l))(hA:L.A=some ⟨b,0,none⟩)(hi:i<w.s.R.length)(hk:∀h',St h0 h' (wkA L D u (w.put i y.r)::l)→Q undef h'):P5 14 (.pointer (some ⟨b,i*14,none⟩)) y.enc h Q s t:=by
 obtain⟨sd,vs,hv,S⟩:=St.wk.1 S
 have hil:i<vs.length:=by rw[←hv,l_z]at hi;exact hi
 have S4:=S.p4
 rw[hA]at S4
 refine v7 f9.enc_len (i:=i) (x:=y) S4 hil rfl rfl rfl rfl ?_
 intro h' S'
 rw[←hA]at S'
 have S2:=S'.p4.p4.p4.p4.perm (V3 _ _ _ _ _ _ _ _)
 have e:∀(rows X:List HP) (ry:HP),(rows++(X++ry::l)).Perm (ry::(rows++(X++l))):=fun rows X ry=>by
  rw[←l_q,←l_q]
  exact List.perm_middle
 have S3:=S2.perm (List.Perm.cons _ (e (vs.map j0) [_,_,_,_,_] (j0 y)))
 have S4:=b9F (F:=j0) hil S3
 have S5:=S4.perm (V3 _ _ _ _ _ _ _ _).symm
 refine hk _ (St.wk.2 ⟨sd,vs.set i y,by rw[List.map_set,hv];rfl,?_⟩)
 have e2:(w.put i y.r).s.R.length=w.s.R.length:=n8
 show St h0 h' (d9 L.p (u2 D u L.k L.t L.o (.slice L.A (w.put i y.r).s.R.length L.c) sd (w.put i y.r).s) 113::_::_::_::f8 f9.enc 14 136 (.slice L.A (w.put i y.r).s.R.length L.c) _::_)
 rw[e2]
 exact S5
end
section
variable{h0 h:c9}{l:List HP}{L:Loc}{D:Cfg}{w:Wk}{U:List Unt}{m b i:Nat}{Au:Option Addr}{cu:Nat}
theorem b5W(c:i5)(hc:∀h',St h0 h' l→D.rd h')(hu:∀h',St h0 h' l→Arr Unt.enc 4 h' Au U)(hD:Stc D U)(S:St h0 h (wkA L D (.slice Au U.length cu) w::l))(W:w.wf U m)(hm:m<390000):
  d8 Tryz.prog 93 [.pointer (some ⟨L.p,0,none⟩),.agg c.enc.toArray] h fun v h'=>a0Q h0 L D (.slice Au U.length cu) l (T1 D.ps D.ss U w c.c) v h':=by
 have hul:=hD.ul
 refine EN i93.eq_1 fun K hK=>Wa ?_
 (revert S;(try clear F);refine AL fun g h S F=> ?_)
 have S:St h0 h (wkA L D (.slice Au U.length cu) w::d9 g c.enc 42::l):=S.p1
 ((try clear F);have F:=S.fx)
 refine Wc F @i5.enc.eq_1 ?_
 refine cI (b1u c.c.rma S W) ?_
 rintro _ _ ⟨rfl,⟨hn,rfl⟩|⟨i,b,hnum,hni,hi,hat,hA,rfl⟩⟩
 ·have hd:T1 D.ps D.ss U w c.c= .error 7:=by rw[T1,hn]
  rw[hd]at hK
  refine Wa ?_
  exact hK _ _ ⟨by decide,rfl,S.tl.tl⟩
 obtain⟨x0,hx0,hrd,_,_,_⟩:=S.wkRet hA hi
 have q6:=hrd 6 (by omega)
 simp only[f9.enc,l_o,l_p,hx0]at q6
 by_cases h4:(w.R i).state=4
 case neg=>
  have hd:T1 D.ps D.ss U w c.c= .error 8:=by rw[T1,hat];simp only[ne_eq,h4,U8,if_true]
  rw[hd]at hK
  refine Wb q6 ?_
  exact hK _ _ ⟨by decide,rfl,S.tl.tl⟩
 rw[b5V hat hni h4]at hK
 obtain⟨hlen,hglen⟩:=W.len _ (C5 hi)
 refine Wb q6 ?_
 clear q6 hrd hx0 F
 obtain⟨sd,vs,hv,S⟩:=St.wk.1 S
 have hil:i<vs.length:=by rw[←hv,l_z]at hi;exact hi
 obtain⟨x,hx⟩:∃x,x=vs[i]:=⟨_,rfl⟩
 have ex:x.r=w.R i:=by
  rw[hx]
  unfold Wk.R
  rw[←hv,l_s,a0N,l_r hil]
  rfl
 obtain⟨LO,hLO⟩:∃LO,LO=(d9 L.p (u2 D (.slice Au U.length cu) L.k L.t L.o (.slice L.A w.s.R.length L.c) sd w.s) 113::s9 L.k w.s.K::H1 L.t w.s.T::E4 L.o w.s.key w.s.O::
  f8 f9.enc 14 136 (.slice L.A w.s.R.length L.c) vs::f8 Msg.enc 6 128 sd w.sd::(vs.map j0++(d9 g c.enc 42::l))):=⟨_,rfl⟩
 rw[←hLO]at S
 have hrdN:∀h',St h0 h' LO→rdN h' b (i*14) 14=some x.enc:=fun h' S=>by
  rw[hLO]at S
  have S4:=S.p4
  rw[hA]at S4
  obtain⟨b',o',hb,q⟩:=(S4.arr f9.enc_len).at hil
  cases hb
  rw[hx,←q,Nat.zero_add]
 have harr:∀h',St h0 h' LO→Arr i4 1 h' x.A x.r.us∧Arr i4 1 h' x.B x.r.gs:=fun h' S=>by
  rw[hLO]at S
  exact O7 S (x:=x) (by rw[hx];simp only[l_e,l_y];exact .inr (.inr (.inr (.inr (.inr (.inr (.inl (a3e (l_v hil)))))))))
 have hcmd:∀h',St h0 h' LO→blk h' g=some (c.enc,42,(0,0)):=fun h' S=>by
  rw[hLO]at S
  obtain⟨M,S⟩:=a3M S (X:=d9 g c.enc 42) (by simp)
  exact S.blk
 have rN:∀K t,j7 (fun h'=>St h0 h' LO) (fun h'=>i0 (rdN h' b (i*14) 14) fun cs=>some (.agg cs.toArray)) K t=K (.agg x.enc.toArray):=fun K t=>rI (fun h' S=>by rw[hrdN _ S];rfl) _ S
 have r7:∀K t,j7 (fun h'=>St h0 h' LO) (fun h'=>rd1 h' (.pointer (some ⟨g,7,none⟩))) K t=K (.int .i64 c.c.unit):=fun K t=>rI (fun h' S=>by rw[j3 (hcmd _ S)];rfl) _ S
 have r8:∀K t,j7 (fun h'=>St h0 h' LO) (fun h'=>rd1 h' (.pointer (some ⟨g,8,none⟩))) K t=K (.int .i64 c.c.grade):=fun K t=>rI (fun h' S=>by rw[j3 (hcmd _ S)];rfl) _ S
 refine cS S (fun ρ' h'=>ρ' 0= .pointer (some ⟨L.p,0,none⟩)∧ρ' 3= .pointer (some ⟨g,0,none⟩)∧ρ' 5= .pointer (some ⟨b,i*14,none⟩)∧∃(q:Nat) (e:Int) (y:f9) (X:List HP),ρ' 7= .pointer (some ⟨q,0,none⟩)∧ρ' 6= .int .i64 e∧St h0 h' (d9 q y.enc 136::(X++LO))∧
  ((e≠0∧N5 (w.R i) c.c.unit c.c.grade= .error e)∨e=0∧∃j,N5 (w.R i) c.c.unit c.c.grade= .ok j∧y.r={w.R i with gs:=(w.R i).gs.set j c.c.grade}∧X=[j0 y])) ?_ ?_
 ·intro J hJ
  have hgo:∀{h h':c9}{v:Value}{M:List HP},resG h0 M x.r c.c.grade (N5 x.r c.c.unit c.c.grade) v h'→∃(e:Int) (y:f9) (X:List HP),v= .tuple #[.agg y.enc.toArray,.int .i64 e]∧St h0 h' (X++M)∧
    ((e≠0∧N5 (w.R i) c.c.unit c.c.grade= .error e)∨e=0∧∃j,N5 (w.R i) c.c.unit c.c.grade= .ok j∧y.r={w.R i with gs:=(w.R i).gs.set j c.c.grade}∧X=[j0 y]):=fun {h h' v M} hv=>by
   rw[ex]at hv
   cases hg:N5 (w.R i) c.c.unit c.c.grade with
   |error e=>
    rw[hg]at hv
    exact⟨e,zR,[],hv.2.1,hv.2.2,.inl ⟨hv.1,rfl⟩⟩
   |ok j=>
    rw[hg]at hv
    obtain⟨_,y,hy,e,S⟩:=hv
    exact⟨0,y,[j0 y],e,S,.inr ⟨rfl,j,rfl,hy,rfl⟩⟩
  refine Wd rN r7 r8 ?_
  refine⟨?_,?_⟩
  ·refine cI (a8m x c.c.unit c.c.grade (fun h' S=>(harr _ S).1) (fun h' S=>(harr _ S).2) (by rw[ex];omega) (by rw[ex];omega) (by rw[ex];exact hglen) S) ?_
   clear S rN r7 r8
   intro v h hv
   obtain⟨e,y,X,rfl,S,hres⟩:=hgo (h:=h) hv
   refine Wa ?_
   (revert S;(try clear F);refine AL fun q h S F=> ?_)
   refine⟨S.tl.dropL,?_⟩
   refine Wb @f9.enc.eq_1 ?_
   refine tS S rfl rfl (l_a rfl) ?_
   clear S F
   intro h S
   replace S:=S.nm
   refine hJ _ _ ?_
   refine Wa ?_
   exact⟨q,e,y,X,rfl,rfl,S,hres⟩
  ·(revert S;(try clear F);refine AL fun q h S F=> ?_)
   refine⟨S.tl,?_⟩
   refine Wa ?_
   refine cI (a8m (l:=d9 q _ _::LO) x c.c.unit c.c.grade (fun h' S=>(harr _ S.tl).1) (fun h' S=>(harr _ S.tl).2) (by rw[ex];omega) (by rw[ex];omega) (by rw[ex];exact hglen) S) ?_
   clear S rN r7 r8 F
   intro v h hv
   obtain⟨e,y,X,rfl,S,hres⟩:=hgo (h:=h) hv
   have S:=S.perm (List.perm_middle)
   refine Wb @f9.enc.eq_1 ?_
   refine tS S rfl rfl (l_a rfl) ?_
   clear S
   intro h S
   replace S:=S.nm
   refine hJ _ _ ?_
   refine Wa ?_
   exact⟨q,e,y,X,rfl,rfl,S,hres⟩
 clear S rN r7 r8
 rintro ρ' h ⟨e0,e3,e5,q,e,y,X,e7,e6,S,hres⟩
 rw[hLO]at S
 clear hrdN harr hcmd hLO
 rcases hres with⟨he,hg⟩|⟨rfl,j,hg,hy,rfl⟩
 ·rw[hg]at hK
  refine Wb e6 ?_
  exact hK _ _ ⟨he,rfl,(S.tl.dropL).tl.tl.tl.tl.tl.tl.dropL.tl⟩
 obtain⟨hright,hgr,hjl,huj,hgj⟩:=a5a hg
 rw[hg]at hK
 have hK':∀(v:Value) (h':c9),a0Q h0 L D (.slice Au U.length cu) l (if c.c.grade=4 then .error 1 else a0M D.ps D.ss U w c.c i j) v h'→K v h':=hK
 clear hK hg hgj
 have S:St h0 h (wkA L D (.slice Au U.length cu) w::d9 q y.enc 136::j0 y::d9 g c.enc 42::l):=St.wkClose (X:=[_,_]) hv S
 clear hv hil hx ex hat
 ((try clear F);have F:=S.fx)
 by_cases k4:c.c.grade=4
 ·rw[if_pos k4]at hK'
  refine We e6 e3 F @i5.enc.eq_1 ?_
  exact hK' _ _ ⟨by decide,rfl,S.tl.tl.tl.tl⟩
 rw[if_neg k4]at hK'
 have hunit:=(W.rr _ (C5 hi)).2 _ (l_v hjl)
 have hunit0:=((W.rr _ (C5 hi)).1.2.2 j hjl).1.1
 rw[←l5 hjl,huj]at hunit
 rw[huj]at hunit0
 obtain⟨n,hn⟩:=l_u hunit0
 have hnU:n<U.length:=by omega
 have hn2:j6 U c.c.unit=j6 U (n:Int):=by rw[hn]
 obtain⟨P,hP⟩:∃P,P=C9 D.ps (j6 U (n:Int)).cat:=⟨_,rfl⟩
 have hPr:P.right:=hP▸N9 hD.cfg.1 _
 have hsh:=K6 hD.sh (n:Int)
 refine Wg e6 e0 e3 F @i5.enc.eq_1 hn ?_
 refine cI (a3I n hnU (fun h' S=>hc h' S.tl.tl.tl) (fun h' S=>hu h' S.tl.tl.tl) S) ?_
 clear S F
 rintro _ h ⟨rfl,S⟩
 rw[←hP]
 refine Wa ?_
 (revert S;(try clear F);refine AL fun pc h S F=> ?_)
 refine Wb @Pol.enc.eq_1 ?_
 (revert S;(try clear F);refine ST fun h S F=> ?_)
 have S:St h0 h (d9 pc P.enc 83::wkA L D (.slice Au U.length cu) w::d9 q y.enc 136::j0 y::d9 g c.enc 42::l):=S
 obtain⟨x0,hx0,hrd,_,_,_⟩:=S.p1.wkRet hA hi
 have q2:=hrd 2 (by omega)
 simp only[f9.enc,l_o,l_p,hx0]at q2
 obtain⟨sd2,M,Sc,_⟩:=S.p1.wkCell
 have F2:=Sc.fx
 obtain⟨b4,o4,hA4,q4⟩:=(hu _ S.tl.tl.tl.tl.tl).at hnU
 have q43:=rP q4 3 (by omega)
 simp only[Unt.enc,l_o,l_p]at q43
 have hat:j6 U (n:Int)=U[n]:=by rw[j6,J5,l_s,l_r hnU];rfl
 rw[←hat]at q43
 ((try clear F);have F:=S.fx)
 refine Wa ?_
 refine dE ?_
 refine Wi e0 e3 e5 F @F2.1 @u2.eq_1 @Pol.enc.eq_1 (Pf @i5.enc.eq_1 hn hA4 q43 q2) ?_
 refine cI (b7n P (j6 U (n:Int)).share (w.R i).rea c.c.grade hPr ⟨hright.2.2.1.1,by have:=hright.2.2.1.2;omega⟩ ⟨hgr.1,by have:=hgr.2;omega⟩ hsh.1 (by omega) _) ?_
 clear Sc F2 F q4 q43 hrd q2 hx0
 rintro _ h ⟨rfl,f1⟩
 have S:=S.frame f1
 clear f1
 ((try clear F);have F:=S.fx)
 refine Wd e7 F @f9.enc.eq_1 ?_
 refine tS S.p2 rfl rfl (l_a rfl) ?_
 clear S F
 intro h S
 rw[f9.enc]at S
 replace S:=S.nm
 obtain⟨y2,hy2⟩:∃y2:f9,y2={y with r:={y.r with worth:=w64 ((w.R i).worth+wrt P (j6 U (n:Int)).share (w.R i).rea c.c.grade)} }:=⟨_,rfl⟩
 have hyw:y.r.worth=(w.R i).worth:=by rw[hy]
 have S:St h0 h (d9 q y2.enc 136::d9 pc P.enc 83::wkA L D (.slice Au U.length cu) w::j0 y2::d9 g c.enc 42::l):=by
  rw[hyw]at S
  rw[hy2]
  exact S
 have hy2r:y2.r={w.R i with gs:=(w.R i).gs.set j c.c.grade,worth:=w64 ((w.R i).worth+wrt P (j6 U (n:Int)).share (w.R i).rea c.c.grade)}:=by rw[hy2,hy]
 clear hy2 hyw
 have S:St h0 h (wkA L D (.slice Au U.length cu) w::j0 y2::d9 q y2.enc 136::d9 pc P.enc 83::d9 g c.enc 42::l):=by(exact PM S)
 ((try clear F);have F:=S.fx)
 refine Wd e5 e7 F ?_
 refine b6J S hA hi ?_
 clear S F
 intro h S
 obtain⟨w1,hw1⟩:∃w1,w1=w.put i y2.r:=⟨_,rfl⟩
 rw[←hw1]at S
 have hwr:=W.rr _ (C5 hi)
 have W1:w1.wf U m:=by
  rw[hw1,hy2r]
  exact W.put ⟨X4 hwr.1 ⟨by have:=hgr.1;omega,hgr.2⟩,hwr.2⟩
 have hi1:i<w1.s.R.length:=by rw[hw1,n8];exact hi
 have hR1:w1.R i=y2.r:=by rw[hw1];exact D7 hi
 have hd:a0M D.ps D.ss U w c.c i j=let w2:=if P.gto c.c.grade≠0 then w1.mv n (P.gto c.c.grade)else I4 (w1.mv n 8) 4 (w1.R i).num n
   if(w2.R i).gs.contains (-1)=true then .ok w2 else G4 D.ss w2 i 4:=by
  have hnum:(w1.R i).num=(w.R i).num:=by rw[hR1,hy2r]
  rw[hnum,hw1,hy2r]
  unfold a0M
  simp only[hn2,←hP,hn]
 rw[hd]at hK'
 clear hd hw1
 ((try clear F);have F:=S.fx)
 refine Wd F e3 @i5.enc.eq_1 ?_
 refine cI (c4e P c.c.grade hPr ⟨hgr.1,by have:=hgr.2;omega⟩ _) ?_
 rintro _ h ⟨rfl,f1⟩
 have S:=S.frame f1
 clear f1 F
 have hkl1:=W1.kl
 have hR1n:∀to,(w1.mv n to).R i=w1.R i:=fun _=>rfl
 generalize hT:d9 q y2.enc 136=Tq at*
 refine Wa ?_
 refine cC (fun ρ' h'=>ρ' 0= .pointer (some ⟨L.p,0,none⟩)∧ρ' 5= .pointer (some ⟨b,i*14,none⟩)∧∃w2:Wk,w2.wf U (m+1)∧w2.s.R.length=w1.s.R.length∧St h0 h' (wkA L D (.slice Au U.length cu) w2::Tq::d9 pc P.enc 83::d9 g c.enc 42::l)∧
  (if P.gto c.c.grade≠0 then w1.mv n (P.gto c.c.grade)else I4 (w1.mv n 8) 4 (w1.R i).num n)=w2) ?_ ?_ ?_
 ·intro hb J hJ
  have hto:P.gto c.c.grade≠0:=fun e=>by rw[dT e]at hb;cases hb
  obtain⟨sd2,M,Sc,_⟩:=S.wkCell
  have F2:=Sc.fx
  ((try clear F);have F:=S.fx)
  refine Wa ?_
  refine dE ?_
  refine Wh e0 e3 F @F2.1 @u2.eq_1 @i5.enc.eq_1 hn ?_
  clear Sc F2 F
  obtain⟨M,Sk,back⟩:=S.wkStock
  refine cI (a0w (n:Int) (P.gto c.c.grade) Sk (by omega)) ?_
  clear S Sk
  rintro _ h ⟨rfl,Sk⟩
  have S:=back _ _ Sk
  refine hJ _ _ ?_
  refine Wc e0 e5 ?_
  exact⟨_,(W1.mv _ _).up (by omega),rfl,S,if_pos hto⟩
 ·intro hb J hJ
  have hto:P.gto c.c.grade=0:=Classical.byContradiction fun e=>by rw[dF e]at hb;cases hb
  obtain⟨sd2,M,Sc,_⟩:=S.wkCell
  have F2:=Sc.fx
  ((try clear F);have F:=S.fx)
  refine Wa ?_
  refine dE ?_
  refine Wh e0 e3 F @F2.1 @u2.eq_1 @i5.enc.eq_1 hn ?_
  clear Sc F2 F
  obtain⟨M,Sk,back⟩:=S.wkStock
  refine cI (a0w (n:Int) 8 Sk (by omega)) ?_
  clear S Sk
  rintro _ h ⟨rfl,Sk⟩
  have S:St h0 h (wkA L D (.slice Au U.length cu) (w1.mv n 8)::_):=back _ _ Sk
  clear back Sk
  obtain⟨x0,hx0,hrd,_,_,_⟩:=S.wkRet hA hi1
  have q0:=hrd 0 (by omega)
  simp only[f9.enc,l_o,l_p,hx0,H8,hR1n]at q0
  ((try clear F);have F:=S.fx)
  refine Wa ?_
  refine dE ?_
  refine Wh e0 e3 e5 F q0 @i5.enc.eq_1 hn ?_
  refine cI (b0e 4 _ _ S (W1.mv _ _) (by omega)) ?_
  clear S F q0 hrd
  intro v h S
  refine Wa ?_
  refine hJ _ _ ?_
  refine Wc e0 e5 ?_
  exact⟨_,(W1.mv _ _).say _ _ _,rfl,S,if_neg (fun h=>h hto)⟩
 clear S e0 e3 e5 e6 e7
 rintro ρ2 h ⟨e0,e5,w2,W2,l2,S,heq⟩
 rw[heq]at hK'
 clear heq
 have hi2:i<w2.s.R.length:=by omega
 obtain⟨hlen2,hglen2⟩:=W2.len _ (C5 hi2)
 obtain⟨x0,hx0,_,hrdN,_,hg2⟩:=S.wkRet hA hi2
 refine Wc e5 hrdN ?_
 refine cI (b5h x0 hg2 (by rw[hx0];omega) (by rw[hx0];exact hglen2)) ?_
 rintro _ h ⟨rfl,f1⟩
 have S:=S.frame f1
 clear f1 hrdN hg2
 rw[hx0]
 by_cases hm1:(-1:Int)∈(w2.R i).gs
 ·have hK2:∀(v:Value) (h':c9),a0Q h0 L D (.slice Au U.length cu) l (.ok w2) v h'→K v h':=fun v h' hr=>hK' v h' (by
   simp only
   rw[if_pos (List.contains_iff_mem.2 hm1)]
   exact hr)
  rw[dT hm1]
  refine Wa ?_
  exact hK2 _ _ ⟨rfl,S.d1.d1.d1⟩
 ·have hK2:∀(v:Value) (h':c9),a0Q h0 L D (.slice Au U.length cu) l (G4 D.ss w2 i 4) v h'→K v h':=fun v h' hr=>hK' v h' (by
   simp only
   rw[if_neg (fun h=>hm1 (List.contains_iff_mem.1 h))]
   exact hr)
  rw[dF hm1]
  refine Wc e0 e5 ?_
  refine cI (a9j 4 hc hD S.d1.d1.d1 W2 (by omega) hA hi2) ?_
  clear S
  intro v h hv
  refine Wa ?_
  exact hK2 _ _ hv
end
end
section
set_option maxHeartbeats 16000000
def Led.sum(x:Led):Int:=x.a+x.b+x.c+x.d+x.e
def okL(n:Int):Prop:= -1125899906842624≤n∧n≤1125899906842624
def Led.ok(x:Led):Prop:=okL x.a∧okL x.b∧okL x.c∧okL x.d∧okL x.e
def a5z(r:Ret):Prop:=6≤r.state∧r.state≤9
structure Aud(D:Cfg)(U:List Unt)(s:Sag):Prop where
 cfg:K4 D
 sh:b6H U
 ul:U.length≤200
 led:s.led.ok
 rl:s.R.length≤100
 rr:∀r∈s.R,r.right∧∀v∈r.us,v<U.length
 kl:s.K.length≤200
 ol:s.O.length<1000000
theorem Aud.len{D:Cfg}{U:List Unt}{s:Sag}(W:Aud D U s):∀r∈s.R,r.us.length<1000000∧r.gs.length<1000000:=fun r hr=>by
 have h:=(W.rr r hr).1.2.2.2.2.2.2.2.1
 have h1:=h.1.2
 have h2:=h.2.1
 omega
theorem a6q(x:f9)(h:c9):d8 Tryz.prog 61 [.agg x.enc.toArray] h fun v h'=>v= .bool (dcd (a5z x.r))∧Fr h h' []:=by
 have S:=St.nil h
 refine EN i61.eq_1 fun K hK=>Wa ?_
 (revert S;(try clear F);refine AL fun b h S F=> ?_)
 by_cases h1:6≤x.r.state
 ·by_cases h2:x.r.state≤9
  ·refine We F @f9.enc.eq_1 h1 h2 ?_
   exact hK _ _ ⟨by rw[dT ⟨h1,h2⟩],S.fr⟩
  ·refine We F @f9.enc.eq_1 h1 h2 ?_
   exact hK _ _ ⟨by rw[dF fun h=>h2 h.2],S.fr⟩
 ·refine Wd F @f9.enc.eq_1 h1 ?_
  exact hK _ _ ⟨by rw[dF fun h=>h1 h.1],S.fr⟩
section
variable{h0 h:c9}{l:List HP}{p:Nat}{D:Cfg}{s:Sag}{U:List Unt}{A:Option Addr}{c:Nat}
theorem sAa(S:St h0 h l)(hm:a3N D (.slice A U.length c) U∈l):D.rd h∧Arr Unt.enc 4 h A U:=by
 obtain⟨h1,A',c',e,h2⟩:=c2g S hm
 cases e
 exact⟨h1,h2⟩
end
end
section
set_option maxHeartbeats 8000000
theorem a6S{α:Type}{p:α→Bool}{L:List α}(hp:∀x∈L,p x=false):L.find? p=none:=List.find?_eq_none.2 fun x hx=>by simp[hp x hx]
theorem a4f{α:Type}{p:α→Bool}:∀{L:List α}{i:Nat} (hi:i<L.length),(∀x∈L.take i,p x=false)→p L[i]=true→L.find? p=some L[i]
 | [],i,hi,_,_=>absurd hi (by simp)
 |x::L,0,_,_,h=>by simp only[List.getElem_cons_zero]at h⊢;rw[List.find?_cons,h]
 |x::L,i+1,hi,h1,h2=>by
  have hx:p x=false:=h1 x (by simp)
  simp only[List.getElem_cons_succ]at h2⊢
  rw[List.find?_cons,hx]
  exact a4f (by simpa using hi) (fun y hy=>h1 y (by simp[hy])) h2
theorem c1W(p:Pol)(days:Int)(wants:Bool)(hp:p.right)(h:c9):d8 Tryz.prog 67 [.agg p.enc.toArray,.int .i64 days,.bool wants] h fun v h'=>v= .int .i64 (b1r p days wants)∧Fr h h' []:=by
 have S:=St.nil h
 have hd:b1r p days wants=if p.fin=true∨p.exc=true∧wants=false then 12 else if days<0∨p.w<days then 11 else 0:=rfl
 rcases p with⟨w,fin,exc,cre,f0,f1,f2,f3,s0,t0,s1,t1,s2,t2,s3,t3⟩
 simp only at hd
 refine EN i67.eq_1 fun K hK=>Wa ?_
 (revert S;(try clear F);refine AL fun b h S F=> ?_)
 refine Wc F @Pol.enc.eq_1 ?_
 refine cI (a2Y (⟨w,fin,exc,cre,f0,f1,f2,f3,s0,t0,s1,t1,s2,t2,s3,t3⟩:Pol) _) ?_
 rintro _ h ⟨rfl,g1⟩
 have S:=S.frame g1
 rw[dT hp]
 ((try clear F);have F:=S.fx)
 have fin2:∀(days:Int),(if days<0∨w<days then(11:Int)else 0)=(if days<0∨w<days then 11 else 0):=fun _=>rfl
 cases fin
 ·cases exc
  ·rw[if_neg (by simp)]at hd
   by_cases d1:days<0
   ·rw[if_pos (.inl d1)]at hd
    refine Wc F @Pol.enc.eq_1 ?_
    exact hK _ _ ⟨by rw[hd],S.fr⟩
   by_cases d2:w<days
   ·rw[if_pos (.inr d2)]at hd
    refine Wc F @Pol.enc.eq_1 ?_
    exact hK _ _ ⟨by rw[hd],S.fr⟩
   rw[if_neg (fun h=>h.elim d1 d2)]at hd
   refine Wc F @Pol.enc.eq_1 ?_
   exact hK _ _ ⟨by rw[hd],S.fr⟩
  ·cases wants
   ·rw[if_pos (by simp)]at hd
    refine Wc F @Pol.enc.eq_1 ?_
    exact hK _ _ ⟨by rw[hd],S.fr⟩
   ·rw[if_neg (by simp)]at hd
    by_cases d1:days<0
    ·rw[if_pos (.inl d1)]at hd
     refine Wc F @Pol.enc.eq_1 ?_
     exact hK _ _ ⟨by rw[hd],S.fr⟩
    by_cases d2:w<days
    ·rw[if_pos (.inr d2)]at hd
     refine Wc F @Pol.enc.eq_1 ?_
     exact hK _ _ ⟨by rw[hd],S.fr⟩
    rw[if_neg (fun h=>h.elim d1 d2)]at hd
    refine Wc F @Pol.enc.eq_1 ?_
    exact hK _ _ ⟨by rw[hd],S.fr⟩
 ·rw[if_pos (.inl rfl)]at hd
  refine Wc F @Pol.enc.eq_1 ?_
  exact hK _ _ ⟨by rw[hd],S.fr⟩
section
variable{h0 h:c9}{l:List HP}{k:Nat}{Ks:List KU}
theorem b7h(sku:Int)(S:St h0 h (s9 k Ks::l))(hl:Ks.length<1000000):d8 Tryz.prog 193 [.pointer (some ⟨k,0,none⟩),.int .i64 sku] h fun v h'=>
  (a1Q Ks sku=none∧v= .tuple #[.int .i64 0,.int .i64 14]∧St h0 h' (s9 k Ks::l))∨∃j:Nat,a1Q Ks sku=some j∧v= .tuple #[.int .i64 j,.int .i64 0]∧St h0 h' (s9 k (Ks.set j {Ks.getD j KU0 with place:=7})::l):=by
 obtain⟨s,S⟩:=St.stk.1 S
 obtain⟨A,c,rfl⟩:=S.p1.sl
 ((try clear F);have F:=S.fx)
 refine EN i193.eq_1 fun K hK=> ?_
 refine Wb F ?_
 refine lI (fun ρ h'=>ρ 0= .pointer (some ⟨k,0,none⟩)∧ρ 1= .int .i64 sku∧ρ 13= .slice A Ks.length c∧ρ 14= .int .i64 Ks.length∧∃i:Nat,ρ 15= .int .i64 i∧i≤Ks.length∧(∀j (hj:j<Ks.length),j<i→¬(Ks[j].place=3∧Ks[j].sku=sku))∧
  St h0 h' (d9 k [.slice A Ks.length c] 164::f8 KU.enc 4 166 (.slice A Ks.length c) Ks::l)) (fun ρ _=>Ks.length-(iv (ρ 15)).toNat) ?_ ?_
 ·refine Wa ?_
  exact⟨0,rfl,by omega,fun j hj h=>absurd h (by omega),S⟩
 clear S F
 rintro ρ h J hJ ⟨e0,e1,e13,e14,i,e15,hi,hno,S⟩
 refine Wc e14 e15 ?_
 refine cD (fun hlt=> ?_) (fun hlt=> ?_)
 ·have hil:i<Ks.length:=by omega
  obtain⟨b1,o1,rfl,q1⟩:=(S.p1.arr KU.enc_len).at hil
  obtain⟨b',hb'⟩:=S.p1.ownAt (by omega)
  cases hb'
  rw[Nat.zero_add]at q1
  have hgd:Ks.getD i KU0=Ks[i]:=by rw[l_s,l_r hil];rfl
  have hsn:¬(Ks[i].place=3∧Ks[i].sku=sku)→∀j (hj:j<Ks.length),j<i+1→¬(Ks[j].place=3∧Ks[j].sku=sku):=fun hx j hj hji=>by
   by_cases e:j=i
   ·subst e;exact hx
   ·exact hno j hj (by omega)
  have hfind:(Ks[i].place=3∧Ks[i].sku=sku)→a1Q Ks sku=some i:=fun hx=>by
   unfold a1Q
   rw[a8b]
   refine⟨hil,by simp[hx],fun j hj=> ?_⟩
   have:=hno j (by omega) hj
   simp only[decide_eq_true_eq]
   exact this
  obtain⟨x,hx⟩:∃x,x=Ks[i]:=⟨_,rfl⟩
  rw[←hx]at q1 hsn hfind hgd
  refine Wd e13 e15 q1 ?_
  (revert S;(try clear F);refine AL fun q h S F=> ?_)
  refine Wc F @KU.enc.eq_1 ?_
  (revert S;(try clear F);refine ST fun h S F=> ?_)
  by_cases k1:x.place=3
  case neg=>
   refine Wc F e15 ?_
   refine hJ _ _ ?_ ?_
   ·refine We e0 e1 e13 e14 ?_
    exact⟨i+1,rfl,by omega,hsn fun h=>k1 h.1,S.tl⟩
   ·refine Wb e15 ?_
    omega
  by_cases k2:x.sku=sku
  case neg=>
   refine Wd F e1 e15 ?_
   refine hJ _ _ ?_ ?_
   ·refine We e0 e1 e13 e14 ?_
    exact⟨i+1,rfl,by omega,hsn fun h=>k2 h.2,S.tl⟩
   ·refine Wb e15 ?_
    omega
  refine We F e0 e1 e15 ?_
  refine G6 KU.enc_len (i:=i) (j:=0) (x:={x with place:=7}) S.p2 hil (by omega) (by simp) rfl rfl (by rw[←hx];rfl) ?_
  clear S F q1
  intro h S
  refine Wa ?_
  refine hK _ _ (.inr ⟨i,hfind ⟨k1,k2⟩,rfl,?_⟩)
  rw[hgd]
  have e:(Ks.set i {x with place:=7}).length=Ks.length:=S6
  exact St.stk.2 ⟨_,S.d1.p1⟩
 obtain rfl:i=Ks.length:=by omega
 refine Wa ?_
 refine hK _ _ (.inl ⟨?_,rfl,St.stk.2 ⟨_,S⟩⟩)
 unfold a1Q
 rw[List.findIdx?_eq_none_iff]
 intro x hx
 obtain⟨j,hj,rfl⟩:=U9 hx
 have:=hno j hj hj
 simp only[decide_eq_false_iff_not]
 exact this
end
section
variable{h0 h:c9}{l:List HP}{L:Loc}{D:Cfg}{u:Value}{w:Wk}{U:List Unt}{m b i:Nat}
def resW(h0:c9)(L:Loc)(D:Cfg)(u:Value)(l:List HP)(x:Except Int (Int×Wk))(v:Value)(h':c9):Prop:=match x with
 | .error e=>e≠0∧v= .tuple #[.int .i64 0,.int .i64 e]∧St h0 h' l
 | .ok y=>v= .tuple #[.int .i64 y.1,.int .i64 0]∧St h0 h' (wkA L D u y.2::l)
theorem b6U(sku:Int)(hc:∀h',St h0 h' l→D.rd h')(hD:Stc D U)(S:St h0 h (wkA L D u w::l))(W:w.wf U m):d8 Tryz.prog 135 [.pointer (some ⟨L.p,0,none⟩),.int .i64 sku] h fun v h'=>resW h0 L D u l (V8 D.ss w sku) v h':=by
 have hss:=hD.cfg.len.2.1
 have hkl:=W.kl
 have hul:=hD.ul
 have hd:V8 D.ss w sku=if sku=0 then .ok (-1,w)else match t8 D.ss sku with
  |none=> .error 14
  |some _=>match a1Q w.s.K sku with
   |none=> .error 14
   |some j=> .ok ((j:Int),{w with s:={w.s with K:=w.s.K.set j {w.s.K.getD j KU0 with place:=7} } }):=rfl
 rw[hd]
 clear hd
 by_cases h0':sku=0
 ·rw[if_pos h0']
  refine EN i135.eq_1 fun K hK=> ?_
  refine Wa ?_
  exact hK _ _ ⟨rfl,S⟩
 rw[if_neg h0']
 obtain⟨sd,M,Sc,_⟩:=S.wkCell
 have F:=Sc.fx
 refine EN i135.eq_1 fun K hK=> ?_
 refine Wc F @u2.eq_1 ?_
 rw[show [Value.slice D.A1 D.os.length D.c1,.slice D.A2 D.ss.length D.c2,.slice D.A3 D.ps.length D.c3]=D.enc from rfl]
 refine cI (a4N D sku (hc _ S.tl).ss (by omega)) ?_
 clear Sc F
 rintro _ h ⟨rfl,f1⟩
 have S:=S.frame f1
 clear f1
 cases hp:t8 D.ss sku with
 |none=>
  rw[hp]at hK
  refine Wa ?_
  exact hK _ _ ⟨by decide,rfl,S.tl⟩
 |some pr=>
  rw[hp]at hK
  obtain⟨sd,M,Sc,_⟩:=S.wkCell
  have F:=Sc.fx
  refine Wc F @u2.eq_1 ?_
  clear Sc F
  obtain⟨M,Sk,back⟩:=S.wkStock
  refine cI (b7h sku Sk (by omega)) ?_
  clear S Sk
  rintro _ h (⟨hn,rfl,Sk⟩|⟨j,hj,rfl,Sk⟩)
  ·have S:=back _ _ Sk
   simp only[hn]at hK
   refine Wa ?_
   exact hK _ _ ⟨by decide,rfl,S.tl⟩
  ·have S:=back _ _ Sk
   simp only[hj]at hK
   refine Wa ?_
   exact hK _ _ ⟨rfl,S⟩
theorem b5Z(un:Int)(S:St h0 h (wkA L D u w::l))(W:w.wf U m):d8 Tryz.prog 191 [.pointer (some ⟨L.p,0,none⟩),.int .i64 un] h fun v h'=>v= .int .i64 (G8 w.s un)∧St h0 h' (wkA L D u w::l):=by
 have hrl:=W.rl
 obtain⟨pd,hpd⟩:∃pd:Ret→Bool,pd=fun r=> !decide (6≤r.state∧r.state≤9)&&r.us.contains un:=⟨_,rfl⟩
 have hh:G8 w.s un=((w.s.R.find? pd).map Ret.num).getD 0:=by rw[hpd];rfl
 rw[hh]
 obtain⟨sd,vs,hv,S⟩:=St.wk.1 S
 have hvl:vs.length≤100:=by rw[←l_z (f:=f9.r),hv];omega
 have hlv:vs.length=w.s.R.length:=by rw[←hv,l_z]
 ((try clear F);have F:=S.fx)
 refine EN i191.eq_1 fun K hK=> ?_
 refine Wc F @u2.eq_1 ?_
 refine lI (fun ρ h'=>ρ 1= .int .i64 un∧ρ 5= .int .i64 0∧ρ 13= .slice L.A w.s.R.length L.c∧ρ 14= .int .i64 w.s.R.length∧∃i:Nat,ρ 15= .int .i64 i∧i≤vs.length∧(∀r∈w.s.R.take i,pd r=false)∧
  St h0 h' (d9 L.p (u2 D u L.k L.t L.o (.slice L.A w.s.R.length L.c) sd w.s) 113::s9 L.k w.s.K::H1 L.t w.s.T::E4 L.o w.s.key w.s.O::
  f8 f9.enc 14 136 (.slice L.A w.s.R.length L.c) vs::f8 Msg.enc 6 128 sd w.sd::(vs.map j0++l))) (fun ρ _=>vs.length-(iv (ρ 15)).toNat) ?_ ?_
 ·refine Wa ?_
  exact⟨0,rfl,by omega,by simp,S⟩
 clear S F
 rintro ρ h J hJ ⟨e1,e5,e13,e14,i,e15,hi,hno,S⟩
 refine Wc e14 e15 ?_
 refine cD (fun hlt=> ?_) (fun hlt=> ?_)
 ·have hil:i<vs.length:=by omega
  have hiR:i<w.s.R.length:=by omega
  have hRi:w.s.R[i]=vs[i].r:=by simp only[←hv,W9]
  have hWl:=W.len _ (l_v hiR)
  obtain⟨b1,o1,hA1,q1⟩:=(S.p4.arr f9.enc_len).at hil
  have harr:∀{h':c9}{M:List HP},St h0 h' (M++(vs.map j0++l))→Arr i4 1 h' vs[i].A vs[i].r.us:=fun {h' M} S=>(O7 S (x:=vs[i]) (a2p _ (X9 _ (a3e (l_v hil))))).1
  have hsn:pd vs[i].r=false→∀r∈w.s.R.take (i+1),pd r=false:=fun hx r hr=>by
   rw[l_t hiR]at hr
   rcases List.mem_append.1 hr with hr|hr
   ·exact hno r hr
   ·rw[T9,hRi]at hr;rw[hr];exact hx
  have hfind:pd vs[i].r=true→w.s.R.find? pd=some vs[i].r:=fun hx=>by
   have:=a4f hiR hno (by rw[hRi];exact hx)
   rw[this,hRi]
  rw[hRi]at hWl
  generalize vs[i]=x at*
  refine We e13 e15 hA1 q1 ?_
  (revert S;(try clear F);refine AL fun q h S F=> ?_)
  refine Wc F @f9.enc.eq_1 ?_
  refine tS S rfl rfl (l_a rfl) ?_
  clear S F q1
  intro h S
  replace S:=S.nm
  have S:St h0 h (d9 q x.enc 136::_):=S
  ((try clear F);have F:=S.fx)
  refine Wc F @f9.enc.eq_1 ?_
  refine cI (a6q x _) ?_
  rintro _ h ⟨rfl,f1⟩
  have S:=S.frame f1
  clear f1 F
  by_cases kd:a5z x.r
  ·rw[dT kd]
   refine Wb e15 ?_
   refine hJ _ _ ?_ ?_
   ·refine Wf e1 e5 e13 e14 hA1 ?_
    refine⟨i+1,rfl,by omega,hsn (by rw[hpd];obtain⟨a,b⟩:=kd;simp[a,b]),?_⟩
    have S:=S.tl
    rw[hA1]at S
    exact S
   ·refine Wb e15 ?_
    omega
  rw[dF kd]
  have hnd:decide (6≤x.r.state∧x.r.state≤9)=false:=by simp only[decide_eq_false_iff_not];exact kd
  ((try clear F);have F:=S.fx)
  refine Wc F @f9.enc.eq_1 ?_
  refine lI (fun ρ' h'=>ρ' 1= .int .i64 un∧ρ' 5= .int .i64 0∧ρ' 13= .slice L.A w.s.R.length L.c∧ρ' 14= .int .i64 w.s.R.length∧ρ' 15= .int .i64 i∧ρ' 7= .pointer (some ⟨q,0,none⟩)∧ρ' 22= .slice x.A x.r.us.length x.c∧ρ' 23= .int .i64 x.r.us.length∧∃j:Nat,ρ' 24= .int .i64 j∧j≤x.r.us.length∧(∀j',j'<j→x.r.us.getD j' 0≠un)∧
   St h0 h' (d9 q x.enc 136::d9 L.p (u2 D u L.k L.t L.o (.slice L.A w.s.R.length L.c) sd w.s) 113::s9 L.k w.s.K::H1 L.t w.s.T::E4 L.o w.s.key w.s.O::
   f8 f9.enc 14 136 (.slice L.A w.s.R.length L.c) vs::f8 Msg.enc 6 128 sd w.sd::(vs.map j0++l))) (fun ρ' _=>x.r.us.length-(iv (ρ' 24)).toNat) ?_ ?_
  ·refine Wf e1 e5 e13 e14 e15 ?_
   exact⟨0,rfl,by omega,fun j' h=>absurd h (by omega),S⟩
  clear S F e1 e5 e13 e14
  have p15:=e15
  clear e15
  rintro ρ' h J' hJ' ⟨e1,e5,e13,e14,e15,e7,e22,e23,j,e24,hj,hnj,S⟩
  refine Wc e23 e24 ?_
  refine cD (fun hlt2=> ?_) (fun hlt2=> ?_)
  ·have hjl:j<x.r.us.length:=by omega
   obtain⟨b2,o2,hA2,q2⟩:=(harr (M:=[_,_,_,_,_,_,_]) S).at hjl
   have q2:=rP0 q2 (by omega)
   simp only[i4,l_o,l9]at q2
   rw[←l5]at q2
   ((try clear F);have F:=S.fx)
   by_cases hu:x.r.us.getD j 0=un
   ·have hx:pd x.r=true:=by
     rw[hpd]
     simp only[hnd,Bool.not_false,Bool.true_and]
     rw[List.contains_iff_mem,←hu,l5 hjl]
     exact l_v hjl
    refine Wi e1 e7 e22 e24 F @f9.enc.eq_1 hA2 (Pc q2 @l9) ?_
    refine hK _ _ ⟨?_,St.wk.2 ⟨sd,vs,hv,S.tl⟩⟩
    rw[hfind hx]
    rfl
   ·refine Wi e1 e7 e22 e24 F @f9.enc.eq_1 hA2 (Pc q2 @l9) ?_
    refine hJ' _ _ ?_ ?_
    ·refine Wi e1 e5 e13 e14 e15 e7 e22 (Pc e23 hA2) ?_
     refine⟨j+1,rfl,by omega,fun j' hj'=> ?_,?_⟩
     ·by_cases e:j'=j
      ·rw[e];exact hu
      ·exact hnj j' (by omega)
     ·exact S
    ·refine Wb e24 ?_
     omega
  obtain rfl:j=x.r.us.length:=by omega
  have hx:pd x.r=false:=by
   rw[hpd]
   simp only[hnd,Bool.not_false,Bool.true_and]
   rw[←Bool.not_eq_true,List.contains_iff_mem]
   intro hm
   obtain⟨j',hj',e⟩:=U9 hm
   exact hnj j' hj' (by rw[l5 hj'];exact e)
  refine Wb e15 ?_
  refine hJ _ _ ?_ ?_
  ·refine We e1 e5 e13 e14 ?_
   exact⟨i+1,rfl,by omega,hsn hx,S.tl⟩
  ·refine Wc e15 p15 ?_
   omega
 obtain rfl:i=vs.length:=by omega
 have hnone:w.s.R.find? pd=none:=a6S (by rw[hlv,D4]at hno;exact hno)
 refine Wb e5 ?_
 refine hK _ _ ⟨?_,St.wk.2 ⟨sd,vs,hv,S⟩⟩
 rw[hnone]
 rfl
end
end
end Go.Proofs.YtjagmebglhbdkaaGreat.MX
