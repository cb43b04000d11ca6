import Derived.Test.YtjagmebglhbdkaaGreatK34
import Derived.Test.YtjagmebglhbdkaaGreatK25
import Derived.Test.YtjagmebglhbdkaaGreatK24
namespace Go.Proofs.YtjagmebglhbdkaaGreat.MX
open Go Go.Proofs
set_option linter.unusedSimpArgs false
set_option linter.unusedVariables false
section
set_option maxHeartbeats 16000000
structure j0 where
 c:Cmd
 A:Option Addr
 n:Nat
def j0.enc(x:j0):List Value:=[.int .i64 x.c.kind,.int .i64 x.c.ord,.slice x.A x.c.us.length x.n,.int .i64 x.c.rea,.int .i64 x.c.want,.bool x.c.cred,.int .i64 x.c.rma,.int .i64 x.c.unit,.int .i64 x.c.grade,.int .i64 x.c.days,.int .i64 x.c.key,.bool x.c.yes]
theorem b6K{ps:List Pol}{ss:List Sup}{U:List Unt}{w:Wk}{c:Cmd}{i:Nat}(hat:w.s.at_ c.rma=some (w.R i))(hi:(c.rma-1).toNat=i)(h4:(w.R i).state=4):
  T8 ps ss U w c=match N9 (w.R i) c.unit c.grade with
   | .error e=> .error e
   | .ok j=>if c.grade=4 then .error 1 else a0Z ps ss U w c i j:=by
 unfold T8
 rw[hat]
 simp only[h4,hi,ne_eq,c4e,if_false]
 rfl
section
variable{h0 h:c9}{l:List HP}{L:Loc}{D:Cfg}{u:Value}{w:Wk}{U:List Unt}{m b i:Nat}
theorem St.wkClose{X:List HP}{sd:Value}{vs:List i0}(hv:vs.map i0.r=w.s.R)(S:St h0 h (X++(d9 L.p (t8 D u L.k L.t L.o (.slice L.A w.s.R.length L.c) sd w.s) 113::t6 L.k w.s.K::H2 L.t w.s.T::D8 L.o w.s.key w.s.O::
  i4 i0.enc 14 136 (.slice L.A w.s.R.length L.c) vs::i4 Msg.enc 6 128 sd w.sd::(vs.map j2++l)))):St h0 h (wkA L D u w::(X++l)):=
 St.wk.2 ⟨sd,vs,hv,S.perm (List.perm_append_comm_assoc X (_::_::_::_::_::_::vs.map j2) l)⟩
theorem b7w{y:i0}{Q:Value→c9→Prop}{s:Tag h}{t:Tag Q}(S:St h0 h (wkA L D u w::j2 y::l))(hA:L.A=some ⟨b,0,none⟩)(hi:i<w.s.R.length)(hk:∀h',St h0 h' (wkA L D u (w.put i y.r)::l)→Q undef h'):P8 14 (.pointer (some ⟨b,i*14,none⟩)) y.enc h Q s t:=by
 obtain⟨sd,vs,hv,S⟩:=St.wk.1 S
 have hil:i<vs.length:=by rw[←hv,l_z]at hi;exact hi
 have S4:=S.p4
 rw[hA]at S4
 refine v7 i0.enc_len (i:=i) (x:=y) S4 hil rfl rfl rfl rfl ?_
 intro h' S'
 rw[←hA]at S'
 have S2:=S'.p4.p4.p4.p4.perm (W7 _ _ _ _ _ _ _ _)
 have e:∀(rows X:List HP) (ry:HP),(rows++(X++ry::l)).Perm (ry::(rows++(X++l))):=fun rows X ry=>by
  rw[←l_q,←l_q]
  exact List.perm_middle
 have S3:=S2.perm (List.Perm.cons _ (e (vs.map j2) [_,_,_,_,_] (j2 y)))
 have S4:=c0s (F:=j2) hil S3
 have S5:=S4.perm (W7 _ _ _ _ _ _ _ _).symm
 refine hk _ (St.wk.2 ⟨sd,vs.set i y,by rw[List.map_set,hv];rfl,?_⟩)
 have e2:(w.put i y.r).s.R.length=w.s.R.length:=o7
 show St h0 h' (d9 L.p (t8 D u L.k L.t L.o (.slice L.A (w.put i y.r).s.R.length L.c) sd (w.put i y.r).s) 113::_::_::_::i4 i0.enc 14 136 (.slice L.A (w.put i y.r).s.R.length L.c) _::_)
 rw[e2]
 exact S5
end
section
variable{h0 h:c9}{l:List HP}{L:Loc}{D:Cfg}{w:Wk}{U:List Unt}{m b i:Nat}{Au:Option Addr}{cu:Nat}
theorem b6L(c:j0)(hc:∀h',St h0 h' l→D.rd h')(hu:∀h',St h0 h' l→Arr Unt.enc 4 h' Au U)(hD:Stc D U)(S:St h0 h (wkA L D (.slice Au U.length cu) w::l))(W:w.wf U m)(hm:m<390000):
  d8 Tryz.prog 93 [.pointer (some ⟨L.p,0,none⟩),.agg c.enc.toArray] h fun v h'=>a1c h0 L D (.slice Au U.length cu) l (T8 D.ps D.ss U w c.c) v h':=by
 have hul:=hD.ul
 refine EN i93.eq_1 fun K hK=>Wa ?_
 (revert S;(try clear F);refine AL fun g h S F=> ?_)
 have S:St h0 h (wkA L D (.slice Au U.length cu) w::d9 g c.enc 42::l):=S.p1
 ((try clear F);have F:=S.fx)
 refine Wc F @j0.enc.eq_1 ?_
 refine cI (b1Y c.c.rma S W) ?_
 rintro _ _ ⟨rfl,⟨hn,rfl⟩|⟨i,b,hnum,hni,hi,hat,hA,rfl⟩⟩
 ·have hd:T8 D.ps D.ss U w c.c= .error 7:=by rw[T8,hn]
  rw[hd]at hK
  refine Wa ?_
  exact hK _ _ ⟨by decide,rfl,S.tl.tl⟩
 obtain⟨x0,hx0,hrd,_,_,_⟩:=S.wkRet hA hi
 have q6:=hrd 6 (by omega)
 simp only[i0.enc,l_o,l_p,hx0]at q6
 by_cases h4:(w.R i).state=4
 case neg=>
  have hd:T8 D.ps D.ss U w c.c= .error 8:=by rw[T8,hat];simp only[ne_eq,h4,U9,if_true]
  rw[hd]at hK
  refine Wb q6 ?_
  exact hK _ _ ⟨by decide,rfl,S.tl.tl⟩
 rw[b6K hat hni h4]at hK
 obtain⟨hlen,hglen⟩:=W.len _ (C5 hi)
 refine Wb q6 ?_
 clear q6 hrd hx0 F
 obtain⟨sd,vs,hv,S⟩:=St.wk.1 S
 have hil:i<vs.length:=by rw[←hv,l_z]at hi;exact hi
 obtain⟨x,hx⟩:∃x,x=vs[i]:=⟨_,rfl⟩
 have ex:x.r=w.R i:=by
  rw[hx]
  unfold Wk.R
  rw[←hv,l_s,a0H,l_r hil]
  rfl
 obtain⟨LO,hLO⟩:∃LO,LO=(d9 L.p (t8 D (.slice Au U.length cu) L.k L.t L.o (.slice L.A w.s.R.length L.c) sd w.s) 113::t6 L.k w.s.K::H2 L.t w.s.T::D8 L.o w.s.key w.s.O::
  i4 i0.enc 14 136 (.slice L.A w.s.R.length L.c) vs::i4 Msg.enc 6 128 sd w.sd::(vs.map j2++(d9 g c.enc 42::l))):=⟨_,rfl⟩
 rw[←hLO]at S
 have hrdN:∀h',St h0 h' LO→rdN h' b (i*14) 14=some x.enc:=fun h' S=>by
  rw[hLO]at S
  have S4:=S.p4
  rw[hA]at S4
  obtain⟨b',o',hb,q⟩:=(S4.arr i0.enc_len).at hil
  cases hb
  rw[hx,←q,Nat.zero_add]
 have harr:∀h',St h0 h' LO→Arr i6 1 h' x.A x.r.us∧Arr i6 1 h' x.B x.r.gs:=fun h' S=>by
  rw[hLO]at S
  exact K4 S (x:=x) (by rw[hx];simp only[l_e,l_y];exact .inr (.inr (.inr (.inr (.inr (.inr (.inl (a0I (l_v hil)))))))))
 have hcmd:∀h',St h0 h' LO→blk h' g=some (c.enc,42,(0,0)):=fun h' S=>by
  rw[hLO]at S
  obtain⟨M,S⟩:=Z4 S (X:=d9 g c.enc 42) (by simp)
  exact S.blk
 have rN:∀K t,j8 (fun h'=>St h0 h' LO) (fun h'=>i7 (rdN h' b (i*14) 14) fun cs=>some (.agg cs.toArray)) K t=K (.agg x.enc.toArray):=fun K t=>rI (fun h' S=>by rw[hrdN _ S];rfl) _ S
 have r7:∀K t,j8 (fun h'=>St h0 h' LO) (fun h'=>rd1 h' (.pointer (some ⟨g,7,none⟩))) K t=K (.int .i64 c.c.unit):=fun K t=>rI (fun h' S=>by rw[j3 (hcmd _ S)];rfl) _ S
 have r8:∀K t,j8 (fun h'=>St h0 h' LO) (fun h'=>rd1 h' (.pointer (some ⟨g,8,none⟩))) K t=K (.int .i64 c.c.grade):=fun K t=>rI (fun h' S=>by rw[j3 (hcmd _ S)];rfl) _ S
 refine cS S (fun ρ' h'=>ρ' 0= .pointer (some ⟨L.p,0,none⟩)∧ρ' 3= .pointer (some ⟨g,0,none⟩)∧ρ' 5= .pointer (some ⟨b,i*14,none⟩)∧∃(q:Nat) (e:Int) (y:i0) (X:List HP),ρ' 7= .pointer (some ⟨q,0,none⟩)∧ρ' 6= .int .i64 e∧St h0 h' (d9 q y.enc 136::(X++LO))∧
  ((e≠0∧N9 (w.R i) c.c.unit c.c.grade= .error e)∨e=0∧∃j,N9 (w.R i) c.c.unit c.c.grade= .ok j∧y.r={w.R i with gs:=(w.R i).gs.set j c.c.grade}∧X=[j2 y])) ?_ ?_
 ·intro J hJ
  have hgo:∀{h h':c9}{v:Value}{M:List HP},resG h0 M x.r c.c.grade (N9 x.r c.c.unit c.c.grade) v h'→∃(e:Int) (y:i0) (X:List HP),v= .tuple #[.agg y.enc.toArray,.int .i64 e]∧St h0 h' (X++M)∧
    ((e≠0∧N9 (w.R i) c.c.unit c.c.grade= .error e)∨e=0∧∃j,N9 (w.R i) c.c.unit c.c.grade= .ok j∧y.r={w.R i with gs:=(w.R i).gs.set j c.c.grade}∧X=[j2 y]):=fun {h h' v M} hv=>by
   rw[ex]at hv
   cases hg:N9 (w.R i) c.c.unit c.c.grade with
   |error e=>
    rw[hg]at hv
    exact⟨e,zR,[],hv.2.1,hv.2.2,.inl ⟨hv.1,rfl⟩⟩
   |ok j=>
    rw[hg]at hv
    obtain⟨_,y,hy,e,S⟩:=hv
    exact⟨0,y,[j2 y],e,S,.inr ⟨rfl,j,rfl,hy,rfl⟩⟩
  refine Wd rN r7 r8 ?_
  refine⟨?_,?_⟩
  ·refine cI (a8G x c.c.unit c.c.grade (fun h' S=>(harr _ S).1) (fun h' S=>(harr _ S).2) (by rw[ex];omega) (by rw[ex];omega) (by rw[ex];exact hglen) S) ?_
   clear S rN r7 r8
   intro v h hv
   obtain⟨e,y,X,rfl,S,hres⟩:=hgo (h:=h) hv
   refine Wa ?_
   (revert S;(try clear F);refine AL fun q h S F=> ?_)
   refine⟨S.tl.dropL,?_⟩
   refine Wb @i0.enc.eq_1 ?_
   refine tS S rfl rfl (l_a rfl) ?_
   clear S F
   intro h S
   replace S:=S.nm
   refine hJ _ _ ?_
   refine Wa ?_
   exact⟨q,e,y,X,rfl,rfl,S,hres⟩
  ·(revert S;(try clear F);refine AL fun q h S F=> ?_)
   refine⟨S.tl,?_⟩
   refine Wa ?_
   refine cI (a8G (l:=d9 q _ _::LO) x c.c.unit c.c.grade (fun h' S=>(harr _ S.tl).1) (fun h' S=>(harr _ S.tl).2) (by rw[ex];omega) (by rw[ex];omega) (by rw[ex];exact hglen) S) ?_
   clear S rN r7 r8 F
   intro v h hv
   obtain⟨e,y,X,rfl,S,hres⟩:=hgo (h:=h) hv
   have S:=S.perm (List.perm_middle)
   refine Wb @i0.enc.eq_1 ?_
   refine tS S rfl rfl (l_a rfl) ?_
   clear S
   intro h S
   replace S:=S.nm
   refine hJ _ _ ?_
   refine Wa ?_
   exact⟨q,e,y,X,rfl,rfl,S,hres⟩
 clear S rN r7 r8
 rintro ρ' h ⟨e0,e3,e5,q,e,y,X,e7,e6,S,hres⟩
 rw[hLO]at S
 clear hrdN harr hcmd hLO
 rcases hres with⟨he,hg⟩|⟨rfl,j,hg,hy,rfl⟩
 ·rw[hg]at hK
  refine Wb e6 ?_
  exact hK _ _ ⟨he,rfl,(S.tl.dropL).tl.tl.tl.tl.tl.tl.dropL.tl⟩
 obtain⟨hright,hgr,hjl,huj,hgj⟩:=a5q hg
 rw[hg]at hK
 have hK':∀(v:Value) (h':c9),a1c h0 L D (.slice Au U.length cu) l (if c.c.grade=4 then .error 1 else a0Z D.ps D.ss U w c.c i j) v h'→K v h':=hK
 clear hK hg hgj
 have S:St h0 h (wkA L D (.slice Au U.length cu) w::d9 q y.enc 136::j2 y::d9 g c.enc 42::l):=St.wkClose (X:=[_,_]) hv S
 clear hv hil hx ex hat
 ((try clear F);have F:=S.fx)
 by_cases k4:c.c.grade=4
 ·rw[if_pos k4]at hK'
  refine We e6 e3 F @j0.enc.eq_1 ?_
  exact hK' _ _ ⟨by decide,rfl,S.tl.tl.tl.tl⟩
 rw[if_neg k4]at hK'
 have hunit:=(W.rr _ (C5 hi)).2 _ (l_v hjl)
 have hunit0:=((W.rr _ (C5 hi)).1.2.2 j hjl).1.1
 rw[←l7 hjl,huj]at hunit
 rw[huj]at hunit0
 obtain⟨n,hn⟩:=l_u hunit0
 have hnU:n<U.length:=by omega
 have hn2:j9 U c.c.unit=j9 U (n:Int):=by rw[hn]
 obtain⟨P,hP⟩:∃P,P=C8 D.ps (j9 U (n:Int)).cat:=⟨_,rfl⟩
 have hPr:P.right:=hP▸K8 hD.cfg.1 _
 have hsh:=L0 hD.sh (n:Int)
 refine Wg e6 e0 e3 F @j0.enc.eq_1 hn ?_
 refine cI (a3Y n hnU (fun h' S=>hc h' S.tl.tl.tl) (fun h' S=>hu h' S.tl.tl.tl) S) ?_
 clear S F
 rintro _ h ⟨rfl,S⟩
 rw[←hP]
 refine Wa ?_
 (revert S;(try clear F);refine AL fun pc h S F=> ?_)
 refine Wb @Pol.enc.eq_1 ?_
 (revert S;(try clear F);refine ST fun h S F=> ?_)
 have S:St h0 h (d9 pc P.enc 83::wkA L D (.slice Au U.length cu) w::d9 q y.enc 136::j2 y::d9 g c.enc 42::l):=S
 obtain⟨x0,hx0,hrd,_,_,_⟩:=S.p1.wkRet hA hi
 have q2:=hrd 2 (by omega)
 simp only[i0.enc,l_o,l_p,hx0]at q2
 obtain⟨sd2,M,Sc,_⟩:=S.p1.wkCell
 have F2:=Sc.fx
 obtain⟨b4,o4,hA4,q4⟩:=(hu _ S.tl.tl.tl.tl.tl).at hnU
 have q43:=rP q4 3 (by omega)
 simp only[Unt.enc,l_o,l_p]at q43
 have hat:j9 U (n:Int)=U[n]:=by rw[j9,K0,l_s,l_r hnU];rfl
 rw[←hat]at q43
 ((try clear F);have F:=S.fx)
 refine Wa ?_
 refine dE ?_
 refine Wi e0 e3 e5 F @F2.1 @t8.eq_1 @Pol.enc.eq_1 (Pf @j0.enc.eq_1 hn hA4 q43 q2) ?_
 refine cI (b1d P (j9 U (n:Int)).share (w.R i).rea c.c.grade hPr ⟨hright.2.2.1.1,by have:=hright.2.2.1.2;omega⟩ ⟨hgr.1,by have:=hgr.2;omega⟩ hsh.1 (by omega) _) ?_
 clear Sc F2 F q4 q43 hrd q2 hx0
 rintro _ h ⟨rfl,f1⟩
 have S:=S.frame f1
 clear f1
 ((try clear F);have F:=S.fx)
 refine Wd e7 F @i0.enc.eq_1 ?_
 refine tS S.p2 rfl rfl (l_a rfl) ?_
 clear S F
 intro h S
 rw[i0.enc]at S
 replace S:=S.nm
 obtain⟨y2,hy2⟩:∃y2:i0,y2={y with r:={y.r with worth:=w64 ((w.R i).worth+wrt P (j9 U (n:Int)).share (w.R i).rea c.c.grade)} }:=⟨_,rfl⟩
 have hyw:y.r.worth=(w.R i).worth:=by rw[hy]
 have S:St h0 h (d9 q y2.enc 136::d9 pc P.enc 83::wkA L D (.slice Au U.length cu) w::j2 y2::d9 g c.enc 42::l):=by
  rw[hyw]at S
  rw[hy2]
  exact S
 have hy2r:y2.r={w.R i with gs:=(w.R i).gs.set j c.c.grade,worth:=w64 ((w.R i).worth+wrt P (j9 U (n:Int)).share (w.R i).rea c.c.grade)}:=by rw[hy2,hy]
 clear hy2 hyw
 have S:St h0 h (wkA L D (.slice Au U.length cu) w::j2 y2::d9 q y2.enc 136::d9 pc P.enc 83::d9 g c.enc 42::l):=by(exact PM S)
 ((try clear F);have F:=S.fx)
 refine Wd e5 e7 F ?_
 refine b7w S hA hi ?_
 clear S F
 intro h S
 obtain⟨w1,hw1⟩:∃w1,w1=w.put i y2.r:=⟨_,rfl⟩
 rw[←hw1]at S
 have hwr:=W.rr _ (C5 hi)
 have W1:w1.wf U m:=by
  rw[hw1,hy2r]
  exact W.put ⟨Y4 hwr.1 ⟨by have:=hgr.1;omega,hgr.2⟩,hwr.2⟩
 have hi1:i<w1.s.R.length:=by rw[hw1,o7];exact hi
 have hR1:w1.R i=y2.r:=by rw[hw1];exact E0 hi
 have hd:a0Z D.ps D.ss U w c.c i j=let w2:=if P.gto c.c.grade≠0 then w1.mv n (P.gto c.c.grade)else I4 (w1.mv n 8) 4 (w1.R i).num n
   if(w2.R i).gs.contains (-1)=true then .ok w2 else G5 D.ss w2 i 4:=by
  have hnum:(w1.R i).num=(w.R i).num:=by rw[hR1,hy2r]
  rw[hnum,hw1,hy2r]
  unfold a0Z
  simp only[hn2,←hP,hn]
 rw[hd]at hK'
 clear hd hw1
 ((try clear F);have F:=S.fx)
 refine Wd F e3 @j0.enc.eq_1 ?_
 refine cI (c4Q P c.c.grade hPr ⟨hgr.1,by have:=hgr.2;omega⟩ _) ?_
 rintro _ h ⟨rfl,f1⟩
 have S:=S.frame f1
 clear f1 F
 have hkl1:=W1.kl
 have hR1n:∀to,(w1.mv n to).R i=w1.R i:=fun _=>rfl
 generalize hT:d9 q y2.enc 136=Tq at*
 refine Wa ?_
 refine cC (fun ρ' h'=>ρ' 0= .pointer (some ⟨L.p,0,none⟩)∧ρ' 5= .pointer (some ⟨b,i*14,none⟩)∧∃w2:Wk,w2.wf U (m+1)∧w2.s.R.length=w1.s.R.length∧St h0 h' (wkA L D (.slice Au U.length cu) w2::Tq::d9 pc P.enc 83::d9 g c.enc 42::l)∧
  (if P.gto c.c.grade≠0 then w1.mv n (P.gto c.c.grade)else I4 (w1.mv n 8) 4 (w1.R i).num n)=w2) ?_ ?_ ?_
 ·intro hb J hJ
  have hto:P.gto c.c.grade≠0:=fun e=>by rw[dT e]at hb;cases hb
  obtain⟨sd2,M,Sc,_⟩:=S.wkCell
  have F2:=Sc.fx
  ((try clear F);have F:=S.fx)
  refine Wa ?_
  refine dE ?_
  refine Wh e0 e3 F @F2.1 @t8.eq_1 @j0.enc.eq_1 hn ?_
  clear Sc F2 F
  obtain⟨M,Sk,back⟩:=S.wkStock
  refine cI (a0L (n:Int) (P.gto c.c.grade) Sk (by omega)) ?_
  clear S Sk
  rintro _ h ⟨rfl,Sk⟩
  have S:=back _ _ Sk
  refine hJ _ _ ?_
  refine Wc e0 e5 ?_
  exact⟨_,(W1.mv _ _).up (by omega),rfl,S,if_pos hto⟩
 ·intro hb J hJ
  have hto:P.gto c.c.grade=0:=Classical.byContradiction fun e=>by rw[dF e]at hb;cases hb
  obtain⟨sd2,M,Sc,_⟩:=S.wkCell
  have F2:=Sc.fx
  ((try clear F);have F:=S.fx)
  refine Wa ?_
  refine dE ?_
  refine Wh e0 e3 F @F2.1 @t8.eq_1 @j0.enc.eq_1 hn ?_
  clear Sc F2 F
  obtain⟨M,Sk,back⟩:=S.wkStock
  refine cI (a0L (n:Int) 8 Sk (by omega)) ?_
  clear S Sk
  rintro _ h ⟨rfl,Sk⟩
  have S:St h0 h (wkA L D (.slice Au U.length cu) (w1.mv n 8)::_):=back _ _ Sk
  clear back Sk
  obtain⟨x0,hx0,hrd,_,_,_⟩:=S.wkRet hA hi1
  have q0:=hrd 0 (by omega)
  simp only[i0.enc,l_o,l_p,hx0,H8,hR1n]at q0
  ((try clear F);have F:=S.fx)
  refine Wa ?_
  refine dE ?_
  refine Wh e0 e3 e5 F q0 @j0.enc.eq_1 hn ?_
  refine cI (b0E 4 _ _ S (W1.mv _ _) (by omega)) ?_
  clear S F q0 hrd
  intro v h S
  refine Wa ?_
  refine hJ _ _ ?_
  refine Wc e0 e5 ?_
  exact⟨_,(W1.mv _ _).say _ _ _,rfl,S,if_neg (fun h=>h hto)⟩
 clear S e0 e3 e5 e6 e7
 rintro ρ2 h ⟨e0,e5,w2,W2,l2,S,heq⟩
 rw[heq]at hK'
 clear heq
 have hi2:i<w2.s.R.length:=by omega
 obtain⟨hlen2,hglen2⟩:=W2.len _ (C5 hi2)
 obtain⟨x0,hx0,_,hrdN,_,hg2⟩:=S.wkRet hA hi2
 refine Wc e5 hrdN ?_
 refine cI (b5X x0 hg2 (by rw[hx0];omega) (by rw[hx0];exact hglen2)) ?_
 rintro _ h ⟨rfl,f1⟩
 have S:=S.frame f1
 clear f1 hrdN hg2
 rw[hx0]
 by_cases hm1:(-1:Int)∈(w2.R i).gs
 ·have hK2:∀(v:Value) (h':c9),a1c h0 L D (.slice Au U.length cu) l (.ok w2) v h'→K v h':=fun v h' hr=>hK' v h' (by
   simp only
   rw[if_pos (List.contains_iff_mem.2 hm1)]
   exact hr)
  rw[dT hm1]
  refine Wa ?_
  exact hK2 _ _ ⟨rfl,S.d1.d1.d1⟩
 ·have hK2:∀(v:Value) (h':c9),a1c h0 L D (.slice Au U.length cu) l (G5 D.ss w2 i 4) v h'→K v h':=fun v h' hr=>hK' v h' (by
   simp only
   rw[if_neg (fun h=>hm1 (List.contains_iff_mem.1 h))]
   exact hr)
  rw[dF hm1]
  refine Wc e0 e5 ?_
  refine cI (a9H 4 hc hD S.d1.d1.d1 W2 (by omega) hA hi2) ?_
  clear S
  intro v h hv
  refine Wa ?_
  exact hK2 _ _ hv
end
end
section
set_option maxHeartbeats 16000000
def Led.sum(x:Led):Int:=x.a+x.b+x.c+x.d+x.e
def okL(n:Int):Prop:= -1125899906842624≤n∧n≤1125899906842624
def Led.ok(x:Led):Prop:=okL x.a∧okL x.b∧okL x.c∧okL x.d∧okL x.e
def V1(r:Ret):Prop:=6≤r.state∧r.state≤9
def told(r:Ret):Int:=r.paid+r.credd+r.given
structure Aud(D:Cfg)(U:List Unt)(s:Sag):Prop where
 cfg:K7 D
 sh:b3Y U
 ul:U.length≤200
 led:s.led.ok
 rl:s.R.length≤100
 rr:∀r∈s.R,r.right∧∀v∈r.us,v<U.length
 kl:s.K.length≤200
 ol:s.O.length<1000000
theorem Aud.len{D:Cfg}{U:List Unt}{s:Sag}(W:Aud D U s):∀r∈s.R,r.us.length<1000000∧r.gs.length<1000000:=fun r hr=>by
 have h:=(W.rr r hr).1.2.2.2.2.2.2.2.1
 have h1:=h.1.2
 have h2:=h.2.1
 omega
def b2w(ps:List Pol)(U:List Unt)(r:Ret):Prop:=r.worth=J7 ps U r∧told r≤r.worth∧(r.state=6→told r=r.worth)∧(r.state≠6→r.state≠5→told r=0)
def b0K(D:Cfg)(U:List Unt)(s:Sag):Prop:=s.led.sum=0∧∀r∈s.R,b2w D.ps U r
theorem a5I{vs:List i0}{P:Ret→Prop}{i:Nat}(hi:i<vs.length)(h:∀r∈(vs.take i).map i0.r,P r)(hx:P vs[i].r):∀r∈(vs.take (i+1)).map i0.r,P r:=fun r hr=>by
 rw[l_t hi,L7]at hr
 rcases List.mem_append.1 hr with hr|hr
 ·exact h r hr
 ·simp at hr;rw[hr];exact hx
theorem b7X(x:Led)(hx:x.ok)(h:c9):d8 Tryz.prog 72 [.agg (List.toArray [.int .i64 x.a,.int .i64 x.b,.int .i64 x.c,.int .i64 x.d,.int .i64 x.e])] h fun v h'=>v= .int .i64 x.sum∧Fr h h' []:=by
 obtain⟨⟨_,_⟩,⟨_,_⟩,⟨_,_⟩,⟨_,_⟩,⟨_,_⟩⟩:=hx
 have S:=St.nil h
 refine EN i72.eq_1 fun K hK=>Wa ?_
 (revert S;(try clear F);refine AL fun b h S F=> ?_)
 refine Wb F ?_
 refine B7 6 ?_
 refine Wa ?_
 refine hK _ _ ⟨?_,S.fr⟩
 congr 1
 unfold Led.sum
 omega
theorem X2(x:i0)(h:c9):d8 Tryz.prog 61 [.agg x.enc.toArray] h fun v h'=>v= .bool (dcd (V1 x.r))∧Fr h h' []:=by
 have S:=St.nil h
 refine EN i61.eq_1 fun K hK=>Wa ?_
 (revert S;(try clear F);refine AL fun b h S F=> ?_)
 by_cases h1:6≤x.r.state
 ·by_cases h2:x.r.state≤9
  ·refine We F @i0.enc.eq_1 h1 h2 ?_
   exact hK _ _ ⟨by rw[dT ⟨h1,h2⟩],S.fr⟩
  ·refine We F @i0.enc.eq_1 h1 h2 ?_
   exact hK _ _ ⟨by rw[dF fun h=>h2 h.2],S.fr⟩
 ·refine Wd F @i0.enc.eq_1 h1 ?_
  exact hK _ _ ⟨by rw[dF fun h=>h1 h.1],S.fr⟩
section
variable{h0 h:c9}{l:List HP}{p:Nat}{D:Cfg}{s:Sag}{U:List Unt}{A:Option Addr}{c:Nat}
theorem sAa(S:St h0 h l)(hm:a0J D (.slice A U.length c) U∈l):D.rd h∧Arr Unt.enc 4 h A U:=by
 obtain⟨h1,A',c',e,h2⟩:=c2U S hm
 cases e
 exact⟨h1,h2⟩
theorem b5K(h:c9):d8 Tryz.prog 31 [.pointer none] h fun v h'=>v= .bool false∧h'=h:=by
 refine EN i31.eq_1 fun K hK=>Wa ?_
 exact hK _ _ ⟨rfl,rfl⟩
theorem b0R(W:Aud D U s)(S:St h0 h (B5 p D (.slice A U.length c) s::a0J D (.slice A U.length c) U::l)):
  d8 Tryz.prog 31 [.pointer (some ⟨p,0,none⟩)] h fun v h'=>v= .bool (dcd (b0K D U s))∧St h0 h' (B5 p D (.slice A U.length c) s::a0J D (.slice A U.length c) U::l):=by
 have hul:=W.ul
 have hrl:=W.rl
 refine EN i31.eq_1 fun K hK=>Wa ?_
 refine cI (b6a S) ?_
 clear S
 rintro _ h ⟨rfl,S⟩
 refine Wa ?_
 refine cI (b7X s.led W.led _) ?_
 rintro _ h ⟨rfl,f1⟩
 have S:=S.frame f1
 clear f1
 by_cases z:s.led.sum=0
 case neg=>
  refine Wb z ?_
  exact hK _ _ ⟨by rw[dF fun h=>z h.1],S⟩
 refine Wb z ?_
 refine cI (b5U S (fun h' S=>(sAa (D:=D) (U:=U) (A:=A) (c:=c) S (by simp)).1) W.cfg) ?_
 clear S
 rintro _ h ⟨E,rfl,hEw,hEp,S⟩
 have hEps:E.ps=D.ps:=congrArg (·.1) hEp
 refine Wa ?_
 refine cI (b1c S.p1 (fun h' S=>(sAa (D:=D) (U:=U) (A:=A) (c:=c) S (by simp)).2) (by omega)) ?_
 clear S
 intro v h S
 obtain⟨A',c',rfl⟩:=S.sl
 refine Wa ?_
 (revert S;(try clear F);refine AL fun g h S F=> ?_)
 refine Wa ?_
 refine tS S rfl rfl (l_a rfl) ?_
 clear S F
 intro h S
 rw[Cfg.enc]at S
 replace S:=S.nm
 refine Wa ?_
 refine cI (a4i S.p2 (by omega) W.len) ?_
 clear S
 intro v h S
 obtain⟨vs,hvs,S⟩:=St.rmas.1 S
 have hvl:vs.length≤100:=by rw[←l_z (f:=i0.r),hvs];omega
 obtain⟨B,d,rfl⟩:=S.sl
 have S:St h0 h (i4 i0.enc 14 136 (.slice B vs.length d) vs::(vs.map j2++(B5 p D (.slice A U.length c) s::d9 g E.enc 26::i4 Unt.enc 4 97 (.slice A' U.length c') U::b3f E::a0J D (.slice A U.length c) U::l))):=S
 refine Wa ?_
 refine lI (fun ρ h'=>ρ 3= .pointer (some ⟨g,0,none⟩)∧ρ 4= .slice A' U.length c'∧ρ 21= .slice B vs.length d∧ρ 22= .int .i64 vs.length∧∃i:Nat,ρ 23= .int .i64 i∧i≤vs.length∧(∀r∈(vs.take i).map i0.r,b2w D.ps U r)∧
  St h0 h' (d9 g E.enc 26::i4 i0.enc 14 136 (.slice B vs.length d) vs::(vs.map j2++(B5 p D (.slice A U.length c) s::i4 Unt.enc 4 97 (.slice A' U.length c') U::b3f E::a0J D (.slice A U.length c) U::l)))) (fun ρ _=>vs.length-(iv (ρ 23)).toNat) ?_ ?_
 ·refine Wa ?_
  refine⟨0,rfl,by omega,by simp,?_⟩
  exact S.perm ((List.Perm.cons _ ((List.Perm.append_left _ (List.Perm.swap _ _ _)).trans List.perm_middle)).trans (List.Perm.swap _ _ _))
 clear S
 rintro ρ h J hJ ⟨e3,e4,e21,e22,i,e23,hi,hok,S⟩
 refine Wc e22 e23 ?_
 refine cD (fun hlt=> ?_) (fun hlt=> ?_)
 ·have hil:i<vs.length:=by omega
  have hmem:=l_v hil
  obtain⟨b1,o1,hA,q1⟩:=(S.p1.arr i0.enc_len).at hil
  have hin:∀{h':c9}{L:List HP},St h0 h' L→(∀x∈vs.map j2,x∈L)→Arr i6 1 h' vs[i].A vs[i].r.us∧Arr i6 1 h' vs[i].B vs[i].r.gs:=fun S hL=>K4 S (hL _ (a0I hmem))
  have hmr:vs[i].r∈s.R:=by rw[←hvs];exact a0I hmem
  obtain⟨hright,hlt'⟩:=W.rr _ hmr
  have hsn:=a5I hil hok
  have hbad:¬b2w D.ps U vs[i].r→¬b0K D U s:=fun hn h=>hn (h.2 _ hmr)
  generalize vs[i]=x at*
  obtain⟨_,_,hrea,_,_,_,_,hou,⟨w0,w1⟩,⟨p0,p1⟩,⟨c0,c1⟩,g0,g1⟩:=id hright
  refine We e21 e23 hA q1 ?_
  (revert S;(try clear F);refine AL fun q h S F=> ?_)
  refine Wc F @i0.enc.eq_1 ?_
  refine tS S rfl rfl (l_a rfl) ?_
  clear S F q1
  intro h S
  replace S:=S.nm
  have S:St h0 h (d9 q x.enc 136::_):=S
  ((try clear F);have F:=S.fx)
  refine Wc F @i0.enc.eq_1 ?_
  have hI:(fun h'=>blk h' q=some (x.enc,136,(0,0))∧blk h' g=some (E.enc,26,(0,0))) h:=⟨S.blk,S.p1.blk⟩
  have r6:∀K t,j8 (fun h'=>blk h' q=some (x.enc,136,(0,0))∧blk h' g=some (E.enc,26,(0,0))) (fun h'=>rd1 h' (.pointer (some ⟨q,6,none⟩))) K t=K (.int .i64 x.r.state):=fun K t=>rI (fun h' hh=>by rw[j3 hh.1];rfl) h hI
  have r10:∀K t,j8 (fun h'=>blk h' q=some (x.enc,136,(0,0))∧blk h' g=some (E.enc,26,(0,0))) (fun h'=>rd1 h' (.pointer (some ⟨q,10,none⟩))) K t=K (.int .i64 x.r.worth):=fun K t=>rI (fun h' hh=>by rw[j3 hh.1];rfl) h hI
  have rq:∀K t,j8 (fun h'=>blk h' q=some (x.enc,136,(0,0))∧blk h' g=some (E.enc,26,(0,0))) (fun h'=>i7 (rdN h' q 0 14) fun cs=>some (.agg cs.toArray)) K t=K (.agg x.enc.toArray):=fun K t=>rI (fun h' hh=>by rw[v8 hh.1 (l_a rfl)];rfl) h hI
  have rg:∀K t,j8 (fun h'=>blk h' q=some (x.enc,136,(0,0))∧blk h' g=some (E.enc,26,(0,0))) (fun h'=>i7 (rdN h' g 0 3) fun cs=>some (.agg cs.toArray)) K t=K (.agg E.enc.toArray):=fun K t=>rI (fun h' hh=>by rw[v8 hh.2 (l_a rfl)];rfl) h hI
  refine dI (fun h'=>blk h' q=some (x.enc,136,(0,0))∧blk h' g=some (E.enc,26,(0,0))) hI ?_
  refine Wg e3 e4 r6 r10 rq rg ?_
  have hin':=hin S fun z hz=>by simp only[l_e,l_y];exact .inr (.inr (.inr (.inl hz)))
  have hcfg:=c1M (D:=E) S (by simp)
  have harr:Arr Unt.enc 4 h A' U:=by
   obtain⟨M,S1⟩:=Z4 S (X:=i4 Unt.enc 4 97 (.slice A' U.length c') U) (by simp)
   exact S1.arr Unt.enc_len
  refine cI (b6o (D:=E) hcfg.ps harr hin'.1 hin'.2 (by rw[hEps];exact W.cfg.1) W.sh ⟨hrea.1,by have:=hrea.2;omega⟩ hou hlt') ?_
  rw[hEps]
  clear hin' hcfg harr
  rintro _ h ⟨rfl,f2⟩
  have S:=S.frame f2
  clear f2 r6 r10 rq rg hI F
  refine⟨⟨S.blk,S.p1.blk⟩,?_⟩
  have hI:(fun h'=>blk h' q=some (x.enc,136,(0,0))∧blk h' g=some (E.enc,26,(0,0))) h:=⟨S.blk,S.p1.blk⟩
  have r6:∀K t,j8 (fun h'=>blk h' q=some (x.enc,136,(0,0))∧blk h' g=some (E.enc,26,(0,0))) (fun h'=>rd1 h' (.pointer (some ⟨q,6,none⟩))) K t=K (.int .i64 x.r.state):=fun K t=>rI (fun h' hh=>by rw[j3 hh.1];rfl) h hI
  have r10:∀K t,j8 (fun h'=>blk h' q=some (x.enc,136,(0,0))∧blk h' g=some (E.enc,26,(0,0))) (fun h'=>rd1 h' (.pointer (some ⟨q,10,none⟩))) K t=K (.int .i64 x.r.worth):=fun K t=>rI (fun h' hh=>by rw[j3 hh.1];rfl) h hI
  have htold:x.r.paid+x.r.credd+x.r.given=told x.r:=rfl
  generalize hW:J7 D.ps U x.r=wo at*
  generalize told x.r=td at*
  have hrow:b2w D.ps U x.r↔(x.r.worth=wo∧td≤x.r.worth∧(x.r.state=6→td=x.r.worth)∧(x.r.state≠6→x.r.state≠5→td=0)):=by
   unfold b2w told
   rw[htold,hW]
  by_cases k1:x.r.worth=wo
  case neg=>
   refine Wa ?_
   exact hK _ _ ⟨by rw[dF (hbad fun h=>k1 (hrow.1 h).1)],(S.tl.tl.tl.dropL).d1.d1⟩
  subst k1
  by_cases k2:x.r.worth<td
  ·refine Wc htold r10 ?_
   exact hK _ _ ⟨by rw[dF (hbad fun h=>by have:=(hrow.1 h).2.1;omega)],(S.tl.tl.tl.dropL).d1.d1⟩
  by_cases k3:x.r.state=6
  ·by_cases k4:td=x.r.worth
   case neg=>
    refine Wd htold r6 r10 ?_
    exact hK _ _ ⟨by rw[dF (hbad fun h=>k4 ((hrow.1 h).2.2.1 k3))],(S.tl.tl.tl.dropL).d1.d1⟩
   refine Wd htold r6 r10 ?_
   refine Wb e23 ?_
   refine hJ _ _ ?_ ?_
   ·refine We e3 e4 e21 e22 ?_
    exact⟨i+1,rfl,by omega,hsn (hrow.2 ⟨rfl,by omega,fun h=>k4,fun h1 h2=>absurd k3 h1⟩),S.tl⟩
   ·refine Wb e23 ?_
    omega
  by_cases k5:x.r.state=5
  ·refine Wd htold r6 r10 ?_
   refine Wb e23 ?_
   refine hJ _ _ ?_ ?_
   ·refine We e3 e4 e21 e22 ?_
    exact⟨i+1,rfl,by omega,hsn (hrow.2 ⟨rfl,by omega,fun h=>absurd h k3,fun h1 h2=>absurd k5 h2⟩),S.tl⟩
   ·refine Wb e23 ?_
    omega
  by_cases k6:td=0
  case neg=>
   refine Wd htold r6 r10 ?_
   exact hK _ _ ⟨by rw[dF (hbad fun h=>k6 ((hrow.1 h).2.2.2 k3 k5))],(S.tl.tl.tl.dropL).d1.d1⟩
  ·refine Wd htold r6 r10 ?_
   refine Wb e23 ?_
   refine hJ _ _ ?_ ?_
   ·refine We e3 e4 e21 e22 ?_
    exact⟨i+1,rfl,by omega,hsn (hrow.2 ⟨rfl,by omega,fun h=>absurd h k3,fun h1 h2=>k6⟩),S.tl⟩
   ·refine Wb e23 ?_
    omega
 obtain rfl:i=vs.length:=by omega
 rw[C9,hvs]at hok
 refine Wa ?_
 exact hK _ _ ⟨by rw[dT ⟨z,hok⟩],(S.tl.tl.dropL).d1.d1⟩
end
end
end Go.Proofs.YtjagmebglhbdkaaGreat.MX
