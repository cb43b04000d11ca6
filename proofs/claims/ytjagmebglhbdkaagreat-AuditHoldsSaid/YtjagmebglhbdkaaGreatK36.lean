import Derived.Test.YtjagmebglhbdkaaGreatK35
import Derived.Test.YtjagmebglhbdkaaGreatK31
namespace Go.Proofs.YtjagmebglhbdkaaGreat.MX
open Go Go.Proofs
set_option linter.unusedSimpArgs false
set_option linter.unusedVariables false
section
set_option maxHeartbeats 8000000
theorem b1B{α:Type}{p:α→Bool}{L:List α}(hp:∀x∈L,p x=false):L.find? p=none:=List.find?_eq_none.2 fun x hx=>by simp[hp x hx]
theorem a7m{α:Type}{p:α→Bool}:∀{L:List α}{i:Nat} (hi:i<L.length),(∀x∈L.take i,p x=false)→p L[i]=true→L.find? p=some L[i]
 | [],i,hi,_,_=>absurd hi (by simp)
 |x::L,0,_,_,h=>by simp only[List.getElem_cons_zero]at h⊢;rw[List.find?_cons,h]
 |x::L,i+1,hi,h1,h2=>by
  have hx:p x=false:=h1 x (by simp)
  simp only[List.getElem_cons_succ]at h2⊢
  rw[List.find?_cons,hx]
  exact a7m (by simpa using hi) (fun y hy=>h1 y (by simp[hy])) h2
theorem c2K(p:Pol)(days:Int)(wants:Bool)(hp:p.right)(h:c9):d8 Tryz.prog 67 [.agg p.enc.toArray,.int .i64 days,.bool wants] h fun v h'=>v= .int .i64 (b1V p days wants)∧Fr h h' []:=by
 have S:=St.nil h
 have hd:b1V p days wants=if p.fin=true∨p.exc=true∧wants=false then 12 else if days<0∨p.w<days then 11 else 0:=rfl
 rcases p with⟨w,fin,exc,cre,f0,f1,f2,f3,s0,t0,s1,t1,s2,t2,s3,t3⟩
 simp only at hd
 refine EN i67.eq_1 fun K hK=>Wa ?_
 (revert S;(try clear F);refine AL fun b h S F=> ?_)
 refine Wc F @Pol.enc.eq_1 ?_
 refine cI (a3o (⟨w,fin,exc,cre,f0,f1,f2,f3,s0,t0,s1,t1,s2,t2,s3,t3⟩:Pol) _) ?_
 rintro _ h ⟨rfl,g1⟩
 have S:=S.frame g1
 rw[dT hp]
 ((try clear F);have F:=S.fx)
 have fin2:∀(days:Int),(if days<0∨w<days then(11:Int)else 0)=(if days<0∨w<days then 11 else 0):=fun _=>rfl
 cases fin
 ·cases exc
  ·rw[if_neg (by simp)]at hd
   by_cases d1:days<0
   ·rw[if_pos (.inl d1)]at hd
    refine Wc F @Pol.enc.eq_1 ?_
    exact hK _ _ ⟨by rw[hd],S.fr⟩
   by_cases d2:w<days
   ·rw[if_pos (.inr d2)]at hd
    refine Wc F @Pol.enc.eq_1 ?_
    exact hK _ _ ⟨by rw[hd],S.fr⟩
   rw[if_neg (fun h=>h.elim d1 d2)]at hd
   refine Wc F @Pol.enc.eq_1 ?_
   exact hK _ _ ⟨by rw[hd],S.fr⟩
  ·cases wants
   ·rw[if_pos (by simp)]at hd
    refine Wc F @Pol.enc.eq_1 ?_
    exact hK _ _ ⟨by rw[hd],S.fr⟩
   ·rw[if_neg (by simp)]at hd
    by_cases d1:days<0
    ·rw[if_pos (.inl d1)]at hd
     refine Wc F @Pol.enc.eq_1 ?_
     exact hK _ _ ⟨by rw[hd],S.fr⟩
    by_cases d2:w<days
    ·rw[if_pos (.inr d2)]at hd
     refine Wc F @Pol.enc.eq_1 ?_
     exact hK _ _ ⟨by rw[hd],S.fr⟩
    rw[if_neg (fun h=>h.elim d1 d2)]at hd
    refine Wc F @Pol.enc.eq_1 ?_
    exact hK _ _ ⟨by rw[hd],S.fr⟩
 ·rw[if_pos (.inl rfl)]at hd
  refine Wc F @Pol.enc.eq_1 ?_
  exact hK _ _ ⟨by rw[hd],S.fr⟩
section
variable{h0 h:c9}{l:List HP}{k:Nat}{Ks:List KU}
theorem b7T(sku:Int)(S:St h0 h (t6 k Ks::l))(hl:Ks.length<1000000):d8 Tryz.prog 193 [.pointer (some ⟨k,0,none⟩),.int .i64 sku] h fun v h'=>
  (a2e Ks sku=none∧v= .tuple #[.int .i64 0,.int .i64 14]∧St h0 h' (t6 k Ks::l))∨∃j:Nat,a2e Ks sku=some j∧v= .tuple #[.int .i64 j,.int .i64 0]∧St h0 h' (t6 k (Ks.set j {Ks.getD j KU0 with place:=7})::l):=by
 obtain⟨s,S⟩:=St.stk.1 S
 obtain⟨A,c,rfl⟩:=S.p1.sl
 ((try clear F);have F:=S.fx)
 refine EN i193.eq_1 fun K hK=> ?_
 refine Wb F ?_
 refine lI (fun ρ h'=>ρ 0= .pointer (some ⟨k,0,none⟩)∧ρ 1= .int .i64 sku∧ρ 13= .slice A Ks.length c∧ρ 14= .int .i64 Ks.length∧∃i:Nat,ρ 15= .int .i64 i∧i≤Ks.length∧(∀j (hj:j<Ks.length),j<i→¬(Ks[j].place=3∧Ks[j].sku=sku))∧
  St h0 h' (d9 k [.slice A Ks.length c] 164::i4 KU.enc 4 166 (.slice A Ks.length c) Ks::l)) (fun ρ _=>Ks.length-(iv (ρ 15)).toNat) ?_ ?_
 ·refine Wa ?_
  exact⟨0,rfl,by omega,fun j hj h=>absurd h (by omega),S⟩
 clear S F
 rintro ρ h J hJ ⟨e0,e1,e13,e14,i,e15,hi,hno,S⟩
 refine Wc e14 e15 ?_
 refine cD (fun hlt=> ?_) (fun hlt=> ?_)
 ·have hil:i<Ks.length:=by omega
  obtain⟨b1,o1,rfl,q1⟩:=(S.p1.arr KU.enc_len).at hil
  obtain⟨b',hb'⟩:=S.p1.ownAt (by omega)
  cases hb'
  rw[Nat.zero_add]at q1
  have hgd:Ks.getD i KU0=Ks[i]:=by rw[l_s,l_r hil];rfl
  have hsn:¬(Ks[i].place=3∧Ks[i].sku=sku)→∀j (hj:j<Ks.length),j<i+1→¬(Ks[j].place=3∧Ks[j].sku=sku):=fun hx j hj hji=>by
   by_cases e:j=i
   ·subst e;exact hx
   ·exact hno j hj (by omega)
  have hfind:(Ks[i].place=3∧Ks[i].sku=sku)→a2e Ks sku=some i:=fun hx=>by
   unfold a2e
   rw[a8w]
   refine⟨hil,by simp[hx],fun j hj=> ?_⟩
   have:=hno j (by omega) hj
   simp only[decide_eq_true_eq]
   exact this
  obtain⟨x,hx⟩:∃x,x=Ks[i]:=⟨_,rfl⟩
  rw[←hx]at q1 hsn hfind hgd
  refine Wd e13 e15 q1 ?_
  (revert S;(try clear F);refine AL fun q h S F=> ?_)
  refine Wc F @KU.enc.eq_1 ?_
  (revert S;(try clear F);refine ST fun h S F=> ?_)
  by_cases k1:x.place=3
  case neg=>
   refine Wc F e15 ?_
   refine hJ _ _ ?_ ?_
   ·refine We e0 e1 e13 e14 ?_
    exact⟨i+1,rfl,by omega,hsn fun h=>k1 h.1,S.tl⟩
   ·refine Wb e15 ?_
    omega
  by_cases k2:x.sku=sku
  case neg=>
   refine Wd F e1 e15 ?_
   refine hJ _ _ ?_ ?_
   ·refine We e0 e1 e13 e14 ?_
    exact⟨i+1,rfl,by omega,hsn fun h=>k2 h.2,S.tl⟩
   ·refine Wb e15 ?_
    omega
  refine We F e0 e1 e15 ?_
  refine G8 KU.enc_len (i:=i) (j:=0) (x:={x with place:=7}) S.p2 hil (by omega) (by simp) rfl rfl (by rw[←hx];rfl) ?_
  clear S F q1
  intro h S
  refine Wa ?_
  refine hK _ _ (.inr ⟨i,hfind ⟨k1,k2⟩,rfl,?_⟩)
  rw[hgd]
  have e:(Ks.set i {x with place:=7}).length=Ks.length:=T3
  exact St.stk.2 ⟨_,S.d1.p1⟩
 obtain rfl:i=Ks.length:=by omega
 refine Wa ?_
 refine hK _ _ (.inl ⟨?_,rfl,St.stk.2 ⟨_,S⟩⟩)
 unfold a2e
 rw[List.findIdx?_eq_none_iff]
 intro x hx
 obtain⟨j,hj,rfl⟩:=R7 hx
 have:=hno j hj hj
 simp only[decide_eq_false_iff_not]
 exact this
end
section
variable{h0 h:c9}{l:List HP}{L:Loc}{D:Cfg}{u:Value}{w:Wk}{U:List Unt}{m b i:Nat}
def resW(h0:c9)(L:Loc)(D:Cfg)(u:Value)(l:List HP)(x:Except Int (Int×Wk))(v:Value)(h':c9):Prop:=match x with
 | .error e=>e≠0∧v= .tuple #[.int .i64 0,.int .i64 e]∧St h0 h' l
 | .ok y=>v= .tuple #[.int .i64 y.1,.int .i64 0]∧St h0 h' (wkA L D u y.2::l)
theorem b7I(sku:Int)(hc:∀h',St h0 h' l→D.rd h')(hD:Stc D U)(S:St h0 h (wkA L D u w::l))(W:w.wf U m):d8 Tryz.prog 135 [.pointer (some ⟨L.p,0,none⟩),.int .i64 sku] h fun v h'=>resW h0 L D u l (X1 D.ss w sku) v h':=by
 have hss:=hD.cfg.len.2.1
 have hkl:=W.kl
 have hul:=hD.ul
 have hd:X1 D.ss w sku=if sku=0 then .ok (-1,w)else match u3 D.ss sku with
  |none=> .error 14
  |some _=>match a2e w.s.K sku with
   |none=> .error 14
   |some j=> .ok ((j:Int),{w with s:={w.s with K:=w.s.K.set j {w.s.K.getD j KU0 with place:=7} } }):=rfl
 rw[hd]
 clear hd
 by_cases h0':sku=0
 ·rw[if_pos h0']
  refine EN i135.eq_1 fun K hK=> ?_
  refine Wa ?_
  exact hK _ _ ⟨rfl,S⟩
 rw[if_neg h0']
 obtain⟨sd,M,Sc,_⟩:=S.wkCell
 have F:=Sc.fx
 refine EN i135.eq_1 fun K hK=> ?_
 refine Wc F @t8.eq_1 ?_
 rw[show [Value.slice D.A1 D.os.length D.c1,.slice D.A2 D.ss.length D.c2,.slice D.A3 D.ps.length D.c3]=D.enc from rfl]
 refine cI (a5d D sku (hc _ S.tl).ss (by omega)) ?_
 clear Sc F
 rintro _ h ⟨rfl,f1⟩
 have S:=S.frame f1
 clear f1
 cases hp:u3 D.ss sku with
 |none=>
  rw[hp]at hK
  refine Wa ?_
  exact hK _ _ ⟨by decide,rfl,S.tl⟩
 |some pr=>
  rw[hp]at hK
  obtain⟨sd,M,Sc,_⟩:=S.wkCell
  have F:=Sc.fx
  refine Wc F @t8.eq_1 ?_
  clear Sc F
  obtain⟨M,Sk,back⟩:=S.wkStock
  refine cI (b7T sku Sk (by omega)) ?_
  clear S Sk
  rintro _ h (⟨hn,rfl,Sk⟩|⟨j,hj,rfl,Sk⟩)
  ·have S:=back _ _ Sk
   simp only[hn]at hK
   refine Wa ?_
   exact hK _ _ ⟨by decide,rfl,S.tl⟩
  ·have S:=back _ _ Sk
   simp only[hj]at hK
   refine Wa ?_
   exact hK _ _ ⟨rfl,S⟩
theorem b6O(un:Int)(S:St h0 h (wkA L D u w::l))(W:w.wf U m):d8 Tryz.prog 191 [.pointer (some ⟨L.p,0,none⟩),.int .i64 un] h fun v h'=>v= .int .i64 (L3 w.s un)∧St h0 h' (wkA L D u w::l):=by
 have hrl:=W.rl
 obtain⟨pd,hpd⟩:∃pd:Ret→Bool,pd=fun r=> !decide (6≤r.state∧r.state≤9)&&r.us.contains un:=⟨_,rfl⟩
 have hh:L3 w.s un=((w.s.R.find? pd).map Ret.num).getD 0:=by rw[hpd];rfl
 rw[hh]
 obtain⟨sd,vs,hv,S⟩:=St.wk.1 S
 have hvl:vs.length≤100:=by rw[←l_z (f:=i0.r),hv];omega
 have hlv:vs.length=w.s.R.length:=by rw[←hv,l_z]
 ((try clear F);have F:=S.fx)
 refine EN i191.eq_1 fun K hK=> ?_
 refine Wc F @t8.eq_1 ?_
 refine lI (fun ρ h'=>ρ 1= .int .i64 un∧ρ 5= .int .i64 0∧ρ 13= .slice L.A w.s.R.length L.c∧ρ 14= .int .i64 w.s.R.length∧∃i:Nat,ρ 15= .int .i64 i∧i≤vs.length∧(∀r∈w.s.R.take i,pd r=false)∧
  St h0 h' (d9 L.p (t8 D u L.k L.t L.o (.slice L.A w.s.R.length L.c) sd w.s) 113::t6 L.k w.s.K::H2 L.t w.s.T::D8 L.o w.s.key w.s.O::
  i4 i0.enc 14 136 (.slice L.A w.s.R.length L.c) vs::i4 Msg.enc 6 128 sd w.sd::(vs.map j2++l))) (fun ρ _=>vs.length-(iv (ρ 15)).toNat) ?_ ?_
 ·refine Wa ?_
  exact⟨0,rfl,by omega,by simp,S⟩
 clear S F
 rintro ρ h J hJ ⟨e1,e5,e13,e14,i,e15,hi,hno,S⟩
 refine Wc e14 e15 ?_
 refine cD (fun hlt=> ?_) (fun hlt=> ?_)
 ·have hil:i<vs.length:=by omega
  have hiR:i<w.s.R.length:=by omega
  have hRi:w.s.R[i]=vs[i].r:=by simp only[←hv,Y9]
  have hWl:=W.len _ (l_v hiR)
  obtain⟨b1,o1,hA1,q1⟩:=(S.p4.arr i0.enc_len).at hil
  have harr:∀{h':c9}{M:List HP},St h0 h' (M++(vs.map j2++l))→Arr i6 1 h' vs[i].A vs[i].r.us:=fun {h' M} S=>(K4 S (x:=vs[i]) (a2l _ (Y0 _ (a0I (l_v hil))))).1
  have hsn:pd vs[i].r=false→∀r∈w.s.R.take (i+1),pd r=false:=fun hx r hr=>by
   rw[l_t hiR]at hr
   rcases List.mem_append.1 hr with hr|hr
   ·exact hno r hr
   ·rw[U1,hRi]at hr;rw[hr];exact hx
  have hfind:pd vs[i].r=true→w.s.R.find? pd=some vs[i].r:=fun hx=>by
   have:=a7m hiR hno (by rw[hRi];exact hx)
   rw[this,hRi]
  rw[hRi]at hWl
  generalize vs[i]=x at*
  refine We e13 e15 hA1 q1 ?_
  (revert S;(try clear F);refine AL fun q h S F=> ?_)
  refine Wc F @i0.enc.eq_1 ?_
  refine tS S rfl rfl (l_a rfl) ?_
  clear S F q1
  intro h S
  replace S:=S.nm
  have S:St h0 h (d9 q x.enc 136::_):=S
  ((try clear F);have F:=S.fx)
  refine Wc F @i0.enc.eq_1 ?_
  refine cI (X2 x _) ?_
  rintro _ h ⟨rfl,f1⟩
  have S:=S.frame f1
  clear f1 F
  by_cases kd:V1 x.r
  ·rw[dT kd]
   refine Wb e15 ?_
   refine hJ _ _ ?_ ?_
   ·refine Wf e1 e5 e13 e14 hA1 ?_
    refine⟨i+1,rfl,by omega,hsn (by rw[hpd];obtain⟨a,b⟩:=kd;simp[a,b]),?_⟩
    have S:=S.tl
    rw[hA1]at S
    exact S
   ·refine Wb e15 ?_
    omega
  rw[dF kd]
  have hnd:decide (6≤x.r.state∧x.r.state≤9)=false:=by simp only[decide_eq_false_iff_not];exact kd
  ((try clear F);have F:=S.fx)
  refine Wc F @i0.enc.eq_1 ?_
  refine lI (fun ρ' h'=>ρ' 1= .int .i64 un∧ρ' 5= .int .i64 0∧ρ' 13= .slice L.A w.s.R.length L.c∧ρ' 14= .int .i64 w.s.R.length∧ρ' 15= .int .i64 i∧ρ' 7= .pointer (some ⟨q,0,none⟩)∧ρ' 22= .slice x.A x.r.us.length x.c∧ρ' 23= .int .i64 x.r.us.length∧∃j:Nat,ρ' 24= .int .i64 j∧j≤x.r.us.length∧(∀j',j'<j→x.r.us.getD j' 0≠un)∧
   St h0 h' (d9 q x.enc 136::d9 L.p (t8 D u L.k L.t L.o (.slice L.A w.s.R.length L.c) sd w.s) 113::t6 L.k w.s.K::H2 L.t w.s.T::D8 L.o w.s.key w.s.O::
   i4 i0.enc 14 136 (.slice L.A w.s.R.length L.c) vs::i4 Msg.enc 6 128 sd w.sd::(vs.map j2++l))) (fun ρ' _=>x.r.us.length-(iv (ρ' 24)).toNat) ?_ ?_
  ·refine Wf e1 e5 e13 e14 e15 ?_
   exact⟨0,rfl,by omega,fun j' h=>absurd h (by omega),S⟩
  clear S F e1 e5 e13 e14
  have p15:=e15
  clear e15
  rintro ρ' h J' hJ' ⟨e1,e5,e13,e14,e15,e7,e22,e23,j,e24,hj,hnj,S⟩
  refine Wc e23 e24 ?_
  refine cD (fun hlt2=> ?_) (fun hlt2=> ?_)
  ·have hjl:j<x.r.us.length:=by omega
   obtain⟨b2,o2,hA2,q2⟩:=(harr (M:=[_,_,_,_,_,_,_]) S).at hjl
   have q2:=rP0 q2 (by omega)
   simp only[i6,l_o,m9]at q2
   rw[←l7]at q2
   ((try clear F);have F:=S.fx)
   by_cases hu:x.r.us.getD j 0=un
   ·have hx:pd x.r=true:=by
     rw[hpd]
     simp only[hnd,Bool.not_false,Bool.true_and]
     rw[List.contains_iff_mem,←hu,l7 hjl]
     exact l_v hjl
    refine Wi e1 e7 e22 e24 F @i0.enc.eq_1 hA2 (Pc q2 @m9) ?_
    refine hK _ _ ⟨?_,St.wk.2 ⟨sd,vs,hv,S.tl⟩⟩
    rw[hfind hx]
    rfl
   ·refine Wi e1 e7 e22 e24 F @i0.enc.eq_1 hA2 (Pc q2 @m9) ?_
    refine hJ' _ _ ?_ ?_
    ·refine Wi e1 e5 e13 e14 e15 e7 e22 (Pc e23 hA2) ?_
     refine⟨j+1,rfl,by omega,fun j' hj'=> ?_,?_⟩
     ·by_cases e:j'=j
      ·rw[e];exact hu
      ·exact hnj j' (by omega)
     ·exact S
    ·refine Wb e24 ?_
     omega
  obtain rfl:j=x.r.us.length:=by omega
  have hx:pd x.r=false:=by
   rw[hpd]
   simp only[hnd,Bool.not_false,Bool.true_and]
   rw[←Bool.not_eq_true,List.contains_iff_mem]
   intro hm
   obtain⟨j',hj',e⟩:=R7 hm
   exact hnj j' hj' (by rw[l7 hj'];exact e)
  refine Wb e15 ?_
  refine hJ _ _ ?_ ?_
  ·refine We e1 e5 e13 e14 ?_
   exact⟨i+1,rfl,by omega,hsn hx,S.tl⟩
  ·refine Wc e15 p15 ?_
   omega
 obtain rfl:i=vs.length:=by omega
 have hnone:w.s.R.find? pd=none:=b1B (by rw[hlv,C9]at hno;exact hno)
 refine Wb e5 ?_
 refine hK _ _ ⟨?_,St.wk.2 ⟨sd,vs,hv,S⟩⟩
 rw[hnone]
 rfl
end
end
section
set_option maxHeartbeats 8000000
theorem c3G{w:Wk}{i:Nat}(hi:i<w.s.R.length){p:Ret→Prop}(h1:∀r∈w.s.R.take i,p r)(h2:p (w.R i)):∀r∈w.s.R.take (i+1),p r:=fun r hr=>by
 rw[l_t hi]at hr
 rcases List.mem_append.1 hr with hr|hr
 ·exact h1 r hr
 ·rw[U1]at hr
  rw[hr]
  have:w.R i=w.s.R[i]:=by unfold Wk.R;rw[l_s,l_r hi];rfl
  rwa[this]at h2
section
variable{h0 h:c9}{l:List HP}{L:V3}{C:Cfg}{u:Value}{w:Wk}{U:List Unt}{m n b i:Nat}
theorem b2S(un:Int)(S:St h0 h (n9 L C u w::l))(W:w.wf U m)(hst:∀r∈w.s.R,1≤r.state∧r.state≤9):d8 Tryz.prog 27 [.pointer (some ⟨L.p,0,none⟩),.int .i64 un] h fun v h'=>v= .int .i64 (L3 w.s un)∧h'=h:=by
 have hrl:=W.rl
 obtain⟨pd,hpd⟩:∃pd:Ret→Bool,pd=fun r=> !decide (6≤r.state∧r.state≤9)&&r.us.contains un:=⟨_,rfl⟩
 have hh:L3 w.s un=((w.s.R.find? pd).map Ret.num).getD 0:=by rw[hpd];rfl
 rw[hh]
 obtain⟨k,t,o,sd,vs,hv,S1⟩:=St.mo.1 S
 have F:=S1.moF
 have hOw:=St.p4 S1
 have hlv:vs.length=w.s.R.length:=by rw[←hv,l_z]
 refine EN i27.eq_1 fun K hK=> ?_
 refine Wc F @x6.eq_1 ?_
 refine LKp (Nat.zero_add 0) [0,1,11] (fun ρ h'=>∃i:Nat,ρ 12= .int .i64 i∧i≤w.s.R.length∧(∀r∈w.s.R.take i,pd r=false)∧h'=h) (fun ρ _=>w.s.R.length-(iv (ρ 12)).toNat) ?_ ?_
 ·refine Wa ?_
  exact⟨0,rfl,by omega,by simp⟩
 rintro ρ h J ⟨e0,e1,e11⟩ hJ ⟨i,e12,hi,hno,rfl⟩
 refine Wc e11 e12 ?_
 refine cD (fun hlt=> ?_) (fun hlt=> ?_)
 ·have hil:i<w.s.R.length:=by omega
  obtain⟨b,hA⟩:=hOw.ownAt (by omega)
  obtain⟨x,hx,hrd,_,hus,_⟩:=S.moRet hA hil
  have hWl:=W.len _ (C5 hil)
  have hs:=hst _ (C5 hil)
  have q0:=hrd 0 (by omega)
  have q6:=hrd 6 (by omega)
  have q8:=hrd 8 (by omega)
  simp only[i0.enc,l_o,l_p,hx,H8]at q0 q6 q8
  rw[hx]at hus
  have hfind:pd (w.R i)=true→w.s.R.find? pd=some (w.R i):=fun hp=>by
   have e:w.R i=w.s.R[i]:=by unfold Wk.R;rw[l_s,l_r hil];rfl
   rw[e]
   exact a7m hil hno (by rw[←e];exact hp)
  have hsn:pd (w.R i)=false→∀r∈w.s.R.take (i+1),pd r=false:=fun h=>c3G hil hno h
  generalize w.R i=r at*
  rw[hA]at F
  refine Wf e0 e12 F @x6.eq_1 q8 ?_
  refine LKp (Pe e0 e1 e11 e12) [0,1,5,11,12,23] (fun ρ h'=>∃j:Nat,ρ 24= .int .i64 j∧j≤r.us.length∧(r.state<6→∀j',j'<j→r.us.getD j' 0≠un)∧h'=h) (fun ρ _=>r.us.length-(iv (ρ 24)).toNat) ?_ ?_
  ·refine Wa ?_
   exact⟨0,rfl,by omega,fun _ j' h=>absurd h (by omega)⟩
  ·have p12:=e12
   clear e0 e1 e11 e12
   rintro ρ h J2 ⟨e0,e1,e5,e11,e12,e23⟩ hJ2 ⟨j,e24,hj,hne,rfl⟩
   refine Wc e23 e24 ?_
   refine cD (fun hlt2=> ?_) (fun hlt2=> ?_)
   ·have hjl:j<r.us.length:=by omega
    obtain⟨b1,o1,hA1,q1⟩:=hus.at hjl
    have q1:=rP0 q1 (by omega)
    simp only[i6,l_o,m9]at q1
    rw[←l7]at q1
    rw[hA1]at q8
    by_cases d6:r.state<6
    ·by_cases d:r.us.getD j 0=un
     ·refine Wi e0 e1 e5 e24 F @x6.eq_1 q0 (Pf q6 q8 q1 d6 (Pc d @m9)) ?_
      refine hK _ _ ⟨?_,rfl⟩
      rw[hfind]
      ·rfl
      ·have hm:un∈r.us:=by rw[←d,l7 hjl];exact l_v hjl
       rw[hpd]
       simp only[a1P,Bool.not_eq_true',decide_eq_false_iff_not]
       exact⟨by omega,by simpa using hm⟩
     ·refine Wi e0 e1 e5 e24 F @x6.eq_1 q6 (Pf q8 q1 d6 d @m9) ?_
      refine hJ2 _ _ ?_ ?_
      ·refine Wa ?_
       refine⟨j+1,rfl,by omega,fun _ j' hj'=> ?_⟩
       by_cases e:j'=j
       ·rw[e];exact d
       ·exact hne d6 j' (by omega)
      ·refine Wb e24 ?_
       omega
    ·refine Wi e0 e1 e5 e24 F @x6.eq_1 q6 d6 ?_
     refine hJ2 _ _ ?_ ?_
     ·refine Wa ?_
      exact⟨j+1,rfl,by omega,fun h=>absurd h d6⟩
     ·refine Wb e24 ?_
      omega
   obtain rfl:j=r.us.length:=by omega
   refine Wb e12 ?_
   refine hJ _ _ ?_ ?_
   ·refine Wa ?_
    refine⟨i+1,rfl,by omega,hsn ?_⟩
    rw[hpd]
    simp only[Bool.and_eq_false_iff,Bool.not_eq_false',decide_eq_true_eq]
    by_cases d6:r.state<6
    ·refine .inr ?_
     rw[List.contains_eq_mem,decide_eq_false_iff_not]
     intro hm
     obtain⟨j',hj',e⟩:=R7 hm
     exact hne d6 j' hj' (by rw[l7 hj',e])
    ·exact .inl (by omega)
   ·refine Wc e12 p12 ?_
    omega
 obtain rfl:i=w.s.R.length:=by omega
 rw[C9]at hno
 refine Wa ?_
 exact hK _ _ ⟨by rw[b1B hno];rfl,rfl⟩
theorem a2O(S:St h0 h (n9 L C u w::l))(W:w.wf U m)(hU:U.length≤200)(hA:L.A=some ⟨b,0,none⟩)(hi:i<w.s.R.length):d8 Tryz.prog 166 [.pointer (some ⟨L.p,0,none⟩),.pointer (some ⟨b,i*14,none⟩)] h fun v h'=>v= .tuple #[]∧St h0 h' (n9 L C u (j5 w i)::l):=by
 obtain⟨x,hx,hrd,-,-,-⟩:=S.moRet hA hi
 have q4:=hrd 4 (by omega)
 simp only[i0.enc,l_o,l_p,hx]at q4
 by_cases h1:0≤(w.R i).res
 case neg=>
  have e:j5 w i=w:=if_neg h1
  rw[e]
  refine EN i166.eq_1 fun K hK=> ?_
  refine Wb q4 ?_
  exact hK _ _ ⟨rfl,S⟩
 have e:j5 w i=(w.mv (w.R i).res 3).put i {w.R i with res:= -1}:=if_pos h1
 rw[e]
 have hkl:=W.kl
 refine EN i166.eq_1 fun K hK=> ?_
 refine Wb q4 ?_
 refine cV (Q3 (w.R i).res 3 S (by omega)) ?_
 clear S hrd q4
 intro h S
 refine Wa ?_
 refine L8 (r':={w.R i with res:= -1}) S hA hi (j:=4) (by omega) rfl rfl rfl (fun x hx=>by rw[i0.enc,i0.enc,hx];rfl) ?_
 clear S
 intro h S
 refine Wa ?_
 exact hK _ _ ⟨rfl,S⟩
theorem c3w(w:Wk)(i:Nat):(j5 w i).R i=w.R i∨(j5 w i).R i={w.R i with res:= -1}:=by
 unfold j5
 split
 ·by_cases hi:i<w.s.R.length
  ·exact .inr (E0 (w:=w.mv (w.R i).res 3) hi)
  ·refine .inl ?_
   unfold Wk.R Wk.put
   rw[l_s,Y1 (by simp[Wk.mv];omega)]
   rw[l_s,Y1 (by omega)]
 ·exact .inl rfl
theorem b6C{O:List Msg}{num:Int}{i:Nat}(hi:i<O.length):dropL (O.take (i+1)) num=dropL (O.take i) num++if O[i].rma=num∧O[i].kind=1 then []else [O[i]]:=by
 rw[l_t hi]
 unfold dropL
 rw[List.filter_append]
 congr 1
 by_cases h:O[i].rma=num∧O[i].kind=1
 ·rw[if_pos h,List.filter_cons,if_neg (by simp[h])];rfl
 ·rw[if_neg h,List.filter_cons,if_pos (by simpa only[Bool.not_eq_true',decide_eq_false_iff_not]using h)];rfl
theorem a4s(st:Int)(S:St h0 h (n9 L C u w::l))(W:w.wf U m)(hU:U.length≤200)(hm:m<500000)(hA:L.A=some ⟨b,0,none⟩)(hi:i<w.s.R.length)(hnum:(w.R i).num=i+1):d8 Tryz.prog 100 [.pointer (some ⟨L.p,0,none⟩),.pointer (some ⟨b,i*14,none⟩),.int .i64 st] h fun v h'=>v= .tuple #[]∧St h0 h' (n9 L C u (N4 w i st)::l):=by
 have hdef:N4 w i st={j5 (w.put i {w.R i with state:=st}) i with s:={(j5 (w.put i {w.R i with state:=st}) i).s with T:=without (j5 (w.put i {w.R i with state:=st}) i).s.T (i+1),O:=dropL (j5 (w.put i {w.R i with state:=st}) i).s.O (i+1)} }:=rfl
 rw[hdef]
 clear hdef
 refine EN i100.eq_1 fun K hK=> ?_
 refine Wa ?_
 refine L8 (r':={w.R i with state:=st}) S hA hi (j:=6) (by omega) rfl rfl rfl (fun x hx=>by rw[i0.enc,i0.enc,hx];rfl) ?_
 clear S
 intro h S
 have W1:(w.put i {w.R i with state:=st}).wf U m:=W.putR hi rfl rfl
 have hR1:((w.put i {w.R i with state:=st}).R i).num=i+1:=by rw[E0 hi];exact hnum
 have hi1:i<(w.put i {w.R i with state:=st}).s.R.length:=by rw[o7];exact hi
 generalize w.put i {w.R i with state:=st}=w1 at*
 clear hnum hi W
 refine Wa ?_
 refine cV (a2O S W1 hU hA hi1) ?_
 clear S
 intro h S
 have W2:(j5 w1 i).wf U m:=W1.release hi1
 have hR2:((j5 w1 i).R i).num=i+1:=by rcases c3w w1 i with e|e<;>rw[e]<;>exact hR1
 have hi2:i<(j5 w1 i).s.R.length:=by rw[D4];exact hi1
 generalize j5 w1 i=w2 at*
 clear hR1 hi1 W1
 obtain⟨x,hx,hrd,-,-,-⟩:=S.moRet hA hi2
 have q0:=hrd 0 (by omega)
 simp only[i0.enc,l_o,l_p,hx,hR2,H8]at q0
 refine Wb q0 ?_
 have htl:=W2.tl
 refine cV (a2T ((i:Int)+1) S (by omega)) ?_
 clear S hrd q0 hx x
 intro h S
 have hol:(S7 w2 (i+1)).s.O.length<1000000:=by have:=W2.ol;show w2.s.O.length<_;omega
 have hR3:((S7 w2 (i+1)).R i).num=i+1:=hR2
 have hi3:i<(S7 w2 (i+1)).s.R.length:=hi2
 have hK:∀v h',v= .tuple #[]∧St h0 h' (n9 L C u {S7 w2 (i+1)with s:={(S7 w2 (i+1)).s with O:=dropL (S7 w2 (i+1)).s.O (i+1)} }::l)→K v h':=hK
 generalize S7 w2 (i+1)=w3 at*
 clear hR2 hi2 W2 htl
 obtain⟨k,t,o,sd,vs,hv,S⟩:=St.mo.1 S
 obtain⟨Ao,co,rfl⟩:=(St.p3 S).sl
 have F:=S.moF
 refine Wc F @x6.eq_1 ?_
 refine LKp (Nat.zero_add 0) [0,1,25] (fun ρ h'=>∃(j:Nat) (s6:Value),ρ 26= .int .i64 j∧j≤w3.s.O.length∧ρ 6=s6∧St h0 h' (i4 Msg.enc 6 127 s6 (dropL (w3.s.O.take j) (i+1))::moL L C u w3 k t (.slice Ao w3.s.O.length co) sd vs l)) (fun ρ _=>w3.s.O.length-(iv (ρ 26)).toNat) ?_ ?_
 ·refine Wa ?_
  exact⟨0,_,rfl,by omega,rfl,S.nilS⟩
 clear S F
 rintro ρ h J ⟨e0,e1,e25⟩ hJ ⟨j,s6,e26,hj,e6,S⟩
 have F:=S.tl.moF
 obtain⟨A6,c6,rfl⟩:=S.sl
 refine Wc e25 e26 ?_
 refine cD (fun hlt=> ?_) (fun hlt=> ?_)
 ·have hjl:j<w3.s.O.length:=by omega
  have S3:=S.tl.p3
  obtain⟨bo,rfl⟩:=S3.ownAt (by omega)
  have hp:=u2 enc_len S3 (i:=j) (j:=1) hjl (by omega)
  have hq:=u2 enc_len S3 (i:=j) (j:=2) hjl (by omega)
  obtain⟨b',o',e,q⟩:=(S3.arr enc_len).at hjl
  cases e
  rw[Nat.zero_add]at q
  obtain⟨x,hx,hrd,-,-,-⟩:=(St.mo.2 ⟨k,t,_,sd,vs,hv,S.tl⟩:St h0 h (n9 L C u w3::l)).moRet hA hi3
  have q0:=hrd 0 (by omega)
  simp only[i0.enc,l_o,l_p,hx,hR3,H8]at q0
  clear hrd hx x S3
  have hs:=b6C (num:=(i:Int)+1) hjl
  have hwl:(dropL (w3.s.O.take j) (i+1)).length≤j:=by
   have:=List.length_filter_le (fun m:Msg=> !decide (m.rma=(i:Int)+1∧m.kind=1)) (w3.s.O.take j)
   rw[x4]at this
   unfold dropL
   omega
  have hgo:∀(v:Value) (x:Msg) (ρ':Env) (h:c9),x=w3.s.O[j]→St h0 h (i4 Msg.enc 6 127 v (dropL (w3.s.O.take j) (i+1)++ [x])::moL L C u w3 k t (.slice (some ⟨bo,0,none⟩) w3.s.O.length co) sd vs l)→¬(x.rma=(i:Int)+1∧x.kind=1)→St h0 h (i4 Msg.enc 6 127 v (dropL (w3.s.O.take (j+1)) (i+1))::moL L C u w3 k t (.slice (some ⟨bo,0,none⟩) w3.s.O.length co) sd vs l):=fun v x ρ' h hx S hn=>by
   subst hx
   rw[hs,if_neg hn]
   exact S
  obtain⟨x,hx⟩:∃x,x=w3.s.O[j]:=⟨_,rfl⟩
  rw[←hx]at hp hq q hs
  simp only[Msg.enc,l_o,l_p]at hp hq
  have hx6:x.enc.length=6:=rfl
  by_cases d1:x.rma=(i:Int)+1
  ·by_cases d2:x.kind=1
   ·rw[if_pos ⟨d1,d2⟩,D9]at hs
    refine Wa ?_
    refine dE ?_
    refine Wi e0 e1 e26 F @x6.eq_1 hp hq (Pd q0 d1 d2) ?_
    refine hJ _ _ ?_ ?_
    ·refine Wb e6 ?_
     exact⟨j+1,_,rfl,by omega,rfl,by rw[hs];exact S⟩
    ·refine Wb e26 ?_
     omega
   ·refine Wa ?_
    refine dE ?_
    refine Wi e0 e1 e6 e26 F @x6.eq_1 hp (Pf hq q0 d1 d2 (Pc q hx6)) ?_
    refine tA S ?_
    clear S F hp hq q q0
    intro g h S
    refine Wa ?_
    refine tA1 (bytes:=48) (x:=x) (xs:=dropL (w3.s.O.take j) (i+1)) enc_len (by omega) enc_plain rfl rfl S (by omega) (by omega) ?_
    clear S
    intro v h S
    refine Wb e26 ?_
    refine hJ _ _ ?_ ?_
    ·refine Wa ?_
     exact⟨j+1,_,rfl,by omega,rfl,hgo v x ρ h hx S fun h=>d2 h.2⟩
    ·refine Wb e26 ?_
     omega
  ·refine Wa ?_
   refine dE ?_
   refine Wi e0 e1 e6 e26 F @x6.eq_1 hp (Pf hq q0 d1 q hx6) ?_
   refine tA S ?_
   clear S F hp hq q q0
   intro g h S
   refine Wa ?_
   refine tA1 (bytes:=48) (x:=x) (xs:=dropL (w3.s.O.take j) (i+1)) enc_len (by omega) enc_plain rfl rfl S (by omega) (by omega) ?_
   clear S
   intro v h S
   refine Wb e26 ?_
   refine hJ _ _ ?_ ?_
   ·refine Wa ?_
    exact⟨j+1,_,rfl,by omega,rfl,hgo v x ρ h hx S fun h=>d1 h.1⟩
   ·refine Wb e26 ?_
    omega
 obtain rfl:j=w3.s.O.length:=by omega
 simp only[C9]at S e6
 refine Wc e0 e6 ?_
 refine b4a hv S ?_
 clear S F
 intro h S
 refine Wa ?_
 exact hK _ _ ⟨rfl,S⟩
end
end
section
set_option maxHeartbeats 8000000
theorem b2T(w:Wk)(i j:Nat)(r:Ret):(w.put i r).R j=r∨(w.put i r).R j=w.R j:=by
 by_cases hj:j=i
 ·subst hj
  by_cases hi:j<w.s.R.length
  ·exact .inl (E0 hi)
  ·refine .inr ?_
   unfold Wk.R Wk.put
   rw[l_s,l_s,Y1 (by simp;omega),Y1 (by omega)]
 ·refine .inr ?_
  unfold Wk.R Wk.put
  rw[l_s,l_s,List.getElem?_set_ne (fun e=>hj e.symm)]
section
variable{w:Wk}{n m i:Nat}
theorem c4f(h:n≤m):lim n≤lim m:=by unfold lim;omega
theorem Bnd.up(B:Bnd n w)(h:n≤m):Bnd m w:=by
 have:=c4f h
 exact⟨fun k=>by have:=B.led k;omega,fun k=>by have:=B.pd k;omega,fun k=>by have:=B.cd k;omega,fun k=>by have:=B.gv k;omega⟩
theorem Bnd.put(B:Bnd n w){r:Ret}(h1: -lim n≤r.paid∧r.paid≤lim n)(h2: -lim n≤r.credd∧r.credd≤lim n)(h3: -lim n≤r.given∧r.given≤lim n):Bnd n (w.put i r):=
 ⟨B.led,fun k=>by rcases b2T w i k r with e|e<;>rw[e]<;>first|exact h1|exact B.pd k,fun k=>by rcases b2T w i k r with e|e<;>rw[e]<;>first|exact h2|exact B.cd k,fun k=>by rcases b2T w i k r with e|e<;>rw[e]<;>first|exact h3|exact B.gv k⟩
theorem Bnd.putR(B:Bnd n w){r:Ret}(h1:r.paid=(w.R i).paid)(h2:r.credd=(w.R i).credd)(h3:r.given=(w.R i).given):Bnd n (w.put i r):=B.put (by rw[h1];exact B.pd i) (by rw[h2];exact B.cd i) (by rw[h3];exact B.gv i)
theorem Bnd.mv(B:Bnd n w)(k to:Int):Bnd n (w.mv k to):=⟨B.led,B.pd,B.cd,B.gv⟩
theorem Bnd.say(B:Bnd n w)(k a v:Int):Bnd n (I4 w k a v):=⟨B.led,B.pd,B.cd,B.gv⟩
theorem Bnd.rel(B:Bnd n w):Bnd n (j5 w i):=by
 unfold j5
 split
 ·exact(B.mv _ _).putR rfl rfl rfl
 ·exact B
theorem Bnd.post(B:Bnd n w){x y s:Int}(hab:x=0∧y=1∨x=1∧y=2∨x=1∧y=3∨x=1∧y=4)(hs:0≤s∧s≤2199023255552):Bnd (n+1) (w.led (K3 w.s.led x y s)):=by
 have hl:=a7z n
 refine⟨fun k=> ?_,(B.up (Nat.le_succ n)).pd,(B.up (Nat.le_succ n)).cd,(B.up (Nat.le_succ n)).gv⟩
 have b0: -lim n≤w.s.led.a∧w.s.led.a≤lim n:=B.led 0
 have b1: -lim n≤w.s.led.b∧w.s.led.b≤lim n:=B.led 1
 have b2: -lim n≤w.s.led.c∧w.s.led.c≤lim n:=B.led 2
 have b3: -lim n≤w.s.led.d∧w.s.led.d≤lim n:=B.led 3
 have b4: -lim n≤w.s.led.e∧w.s.led.e≤lim n:=B.led 4
 show-lim (n+1)≤(K3 w.s.led x y s).get k∧(K3 w.s.led x y s).get k≤lim (n+1)
 rw[hl]
 rcases hab with⟨rfl,rfl⟩|⟨rfl,rfl⟩|⟨rfl,rfl⟩|⟨rfl,rfl⟩<;>(simp only[K3,Led.put,Led.get,Int.reduceEq,if_false,if_true];(repeat' split)<;>omega)
end
section
variable{h0 h:c9}{l:List HP}{L:V3}{C:Cfg}{u:Value}{w:Wk}{U:List Unt}{m n b i:Nat}{Au:Option Addr}{cu:Nat}
theorem a7f(s:Int)(S:St h0 h (n9 L C u w::l))(B:Bnd n w)(hn:n≤1000)(hs:0≤s∧s≤2199023255552)(hA:L.A=some ⟨b,0,none⟩)(hi:i<w.s.R.length):d8 Tryz.prog 165 [.pointer (some ⟨L.p,0,none⟩),.pointer (some ⟨b,i*14,none⟩),.int .i64 s] h fun v h'=>v= .tuple #[]∧St h0 h' (n9 L C u (G3 w i s)::l):=by
 obtain⟨x,hx,hrd,-,-,-⟩:=S.moRet hA hi
 have q:=hrd 12 (by omega)
 simp only[i0.enc,l_o,l_p,hx]at q
 have hl:=b3A (show n≤100000 by omega)
 have hc:=B.cd i
 refine EN i165.eq_1 fun K hK=> ?_
 refine Wb q ?_
 clear hrd hx x q
 refine L8 (r':={w.R i with credd:=(w.R i).credd+s}) S hA hi (j:=12) (by omega) rfl rfl rfl (fun x hx=>by rw[i0.enc,i0.enc,hx];rfl) ?_
 clear S
 intro h S
 have hl1:=a7z n
 have B1:Bnd (n+1) (w.put i {w.R i with credd:=(w.R i).credd+s}):=(B.up (Nat.le_succ n)).put ((B.up (Nat.le_succ n)).pd i) ⟨by show-lim (n+1)≤(w.R i).credd+s;omega,by show(w.R i).credd+s≤lim (n+1);omega⟩ ((B.up (Nat.le_succ n)).gv i)
 refine Wa ?_
 refine cV (a4M 1 3 s (.inr (.inr (.inl ⟨rfl,rfl⟩))) S B1 (by omega) hs) ?_
 clear S
 intro h S
 refine Wa ?_
 exact hK _ _ ⟨rfl,S⟩
theorem a6z(s:Int)(S:St h0 h (n9 L C u w::l))(W:w.wf U m)(hm:m<500000)(B:Bnd n w)(hn:n≤1000)(hs:0≤s∧s≤2199023255552)(hA:L.A=some ⟨b,0,none⟩)(hi:i<w.s.R.length):d8 Tryz.prog 167 [.pointer (some ⟨L.p,0,none⟩),.pointer (some ⟨b,i*14,none⟩),.int .i64 s] h fun v h'=>v= .tuple #[]∧St h0 h' (n9 L C u (O3 w i s)::l):=by
 obtain⟨x,hx,hrd,-,-,-⟩:=S.moRet hA hi
 have q:=hrd 5 (by omega)
 have q0:=hrd 0 (by omega)
 simp only[i0.enc,l_o,l_p,hx,H8]at q q0
 have hd:O3 w i s=if s=0 then w else if(w.R i).cred=true then G3 w i s else I4 w 2 (w.R i).num s:=rfl
 rw[hd]
 by_cases d0:s=0
 ·rw[if_pos d0]
  refine EN i167.eq_1 fun K hK=> ?_
  refine Wb d0 ?_
  exact hK _ _ ⟨rfl,S⟩
 rw[if_neg d0]
 have d1:0<s:=by omega
 clear hx hrd
 by_cases d2:(w.R i).cred=true
 ·rw[if_pos d2]
  rw[d2]at q
  refine EN i167.eq_1 fun K hK=> ?_
  refine Wc d1 q ?_
  refine cV (a7f s S B (by omega) hs hA hi) ?_
  clear S q q0
  intro h S
  have hi1:i<(G3 w i s).s.R.length:=by show i<(w.put i _).s.R.length;rw[o7];exact hi
  obtain⟨x,hx,hrd,-,-,-⟩:=S.moRet hA hi1
  have q:=hrd 5 (by omega)
  have hc:((G3 w i s).R i).cred=true:=by
   show((w.put i {w.R i with credd:=(w.R i).credd+s}).R i).cred=true
   rw[E0 hi]
   exact d2
  simp only[i0.enc,l_o,l_p,hx,hc]at q
  refine Wc d1 q ?_
  exact hK _ _ ⟨rfl,S⟩
 ·rw[if_neg d2]
  have d2:(w.R i).cred=false:=by simpa using d2
  rw[d2]at q
  refine EN i167.eq_1 fun K hK=> ?_
  refine Wd d1 q q0 ?_
  refine cV (a6C 2 (w.R i).num s S W (by omega)) ?_
  clear S q q0
  intro h S
  refine Wa ?_
  exact hK _ _ ⟨rfl,S⟩
theorem a6A{s:Int}(W:w.wf U m)(hi:i<w.s.R.length):(O3 w i s).wf U (m+1)∧(O3 w i s).s.R.length=w.s.R.length:=by
 unfold O3
 split
 ·exact⟨W.up (Nat.le_succ m),rfl⟩
 ·split
  ·exact⟨((W.putR (r:={w.R i with credd:=(w.R i).credd+s}) hi rfl rfl).led _).up (Nat.le_succ m),o7⟩
  ·exact⟨W.say _ _ _,rfl⟩
theorem J9(S:St h0 h (n9 L C u w::l))(W:w.wf U m)(hm:m<500000)(hA:L.A=some ⟨b,0,none⟩)(hi:i<w.s.R.length):d8 Tryz.prog 168 [.pointer (some ⟨L.p,0,none⟩),.pointer (some ⟨b,i*14,none⟩)] h fun v h'=>v= .tuple #[]∧St h0 h' (n9 L C u (y8 w i)::l):=by
 obtain⟨x,hx,hrd,-,-,-⟩:=S.moRet hA hi
 have q:=hrd 6 (by omega)
 have q0:=hrd 0 (by omega)
 simp only[i0.enc,l_o,l_p,hx,H8]at q q0
 clear hx hrd
 have hd:y8 w i=if(w.R i).state=5∧l8 (w.R i).num w.s.O=0 then w.put i {w.R i with state:=6}else w:=rfl
 have hol:=W.ol
 rw[hd]
 by_cases d1:(w.R i).state=5
 case neg=>
  rw[if_neg (fun h=>d1 h.1)]
  refine EN i168.eq_1 fun K hK=> ?_
  refine Wc q d1 ?_
  exact hK _ _ ⟨rfl,S⟩
 refine EN i168.eq_1 fun K hK=> ?_
 refine Wd q d1 q0 ?_
 refine cI (b6h (w.R i).num S (by omega)) ?_
 rintro _ _ ⟨rfl,rfl⟩
 by_cases d2:l8 (w.R i).num w.s.O=0
 ·rw[if_pos ⟨d1,d2⟩]at hK
  refine Wb d2 ?_
  refine L8 (r':={w.R i with state:=6}) S hA hi (j:=6) (by omega) rfl rfl rfl (fun x hx=>by rw[i0.enc,i0.enc,hx];rfl) ?_
  clear S q q0
  intro h S
  refine Wa ?_
  exact hK _ _ ⟨rfl,S⟩
 ·rw[if_neg (fun h=>d2 h.2)]at hK
  (try simp(disch:=first|omega|assumption|exact l_a rfl) only[go_sem,↓wBk,simprocAttr,show ¬(l8 (w.R i).num w.s.O:Int)=0 by omega])
  exact hK _ _ ⟨rfl,S⟩
theorem a7Z(hc:∀h',St h0 h' l→C.rd h')(hD:Stc C U)(S:St h0 h (n9 L C u w::l))(W:w.wf U m)(hm:m<400000)(B:Bnd n w)(hn:n≤100)(hw:0≤(w.R i).worth∧(w.R i).worth≤2199023255552)(hA:L.A=some ⟨b,0,none⟩)(hi:i<w.s.R.length):
  d8 Tryz.prog 162 [.pointer (some ⟨L.p,0,none⟩),.pointer (some ⟨b,i*14,none⟩)] h fun v h'=>v= .tuple #[]∧St h0 h' (n9 L C u (N2 C.ss w i)::l):=by
 have hul:=hD.ul
 have hss:=hD.cfg.len.2.1
 have hd:N2 C.ss w i=a2g C.ss ((w.put i {w.R i with state:=5}).led (K3 w.s.led 0 1 (w.R i).worth)) i:=rfl
 rw[hd]
 refine EN i162.eq_1 fun K hK=> ?_
 refine Wa ?_
 refine L8 (r':={w.R i with state:=5}) S hA hi (j:=6) (by omega) rfl rfl rfl (fun x hx=>by rw[i0.enc,i0.enc,hx];rfl) ?_
 clear S
 intro h S
 have hR1:((w.put i {w.R i with state:=5}).R i).worth=(w.R i).worth:=by rw[E0 hi]
 have hi1:i<(w.put i {w.R i with state:=5}).s.R.length:=by rw[o7];exact hi
 have W1:(w.put i {w.R i with state:=5}).wf U m:=W.putR hi rfl rfl
 have B1:Bnd n (w.put i {w.R i with state:=5}):=B.putR rfl rfl rfl
 have hl1:(w.put i {w.R i with state:=5}).s.led=w.s.led:=rfl
 rw[←hl1,←hR1]at hK
 rw[←hR1]at hw
 generalize w.put i {w.R i with state:=5}=w1 at*
 clear hR1 hl1 hi W B hd
 obtain⟨x,hx,hrd,-,-,-⟩:=S.moRet hA hi1
 have q:=hrd 10 (by omega)
 simp only[i0.enc,l_o,l_p,hx]at q
 clear hx hrd
 refine Wb q ?_
 refine cV (a4M 0 1 (w1.R i).worth (.inl ⟨rfl,rfl⟩) S B1 (by omega) hw) ?_
 clear S q
 intro h S
 have W2:(w1.led (K3 w1.s.led 0 1 (w1.R i).worth)).wf U m:=W1.led _
 have B2:=B1.post (.inl ⟨rfl,rfl⟩) hw
 have hi2:i<(w1.led (K3 w1.s.led 0 1 (w1.R i).worth)).s.R.length:=hi1
 have hw2:0≤((w1.led (K3 w1.s.led 0 1 (w1.R i).worth)).R i).worth∧((w1.led (K3 w1.s.led 0 1 (w1.R i).worth)).R i).worth≤2199023255552:=hw
 generalize w1.led (K3 w1.s.led 0 1 (w1.R i).worth)=w2 at*
 clear hw hi1 W1 B1
 have hd:a2g C.ss w2 i=y8 (if 0≤(w2.R i).res then(if(w2.R i).worth<prc C.ss (w2.R i)then O3 (j5 w2 i) i (w2.R i).worth else O3 (I4 w2 3 (w2.R i).num (w2.R i).res) i ((w2.R i).worth-prc C.ss (w2.R i)))else O3 w2 i (w2.R i).worth) i:=rfl
 rw[hd]at hK
 clear hd
 have hpr:=a5F hD (w2.R i)
 obtain⟨x,hx,hrd,-,-,-⟩:=S.moRet hA hi2
 have q0:=hrd 0 (by omega)
 have q3:=hrd 3 (by omega)
 have q4:=hrd 4 (by omega)
 have q:=hrd 10 (by omega)
 simp only[i0.enc,l_o,l_p,hx,H8]at q q0 q3 q4
 clear hx hrd
 by_cases d1:0≤(w2.R i).res
 case neg=>
  rw[if_neg d1]at hK
  refine Wd q q4 d1 ?_
  refine cV (a6z (w2.R i).worth S W2 (by omega) B2 (by omega) hw2 hA hi2) ?_
  clear S q q0 q3 q4
  intro h S
  have W3:=a6A (s:=(w2.R i).worth) W2 hi2
  refine Wa ?_
  refine cV (J9 S W3.1 (by omega) hA (by rw[W3.2];exact hi2)) ?_
  clear S
  intro h S
  refine Wa ?_
  exact hK _ _ ⟨rfl,S⟩
 rw[if_pos d1]at hK
 obtain⟨k,t,o,sd,vs,hv,S1⟩:=St.mo.1 S
 have hC:=S1.moC
 clear S1
 refine Wd q q4 d1 ?_
 refine dE ?_
 refine Wc hC q3 ?_
 refine cI (a5e C (w2.R i).want (hc _ S.tl).ss (by omega)) ?_
 clear hC q0 q3 q4 q
 rintro _ h ⟨rfl,f1⟩
 have S:=S.frame f1
 clear f1
 have e:(u3 C.ss (w2.R i).want).getD 0=prc C.ss (w2.R i):=rfl
 rw[e]
 clear e
 obtain⟨x,hx,hrd,-,-,-⟩:=S.moRet hA hi2
 have q0:=hrd 0 (by omega)
 have q4:=hrd 4 (by omega)
 have q:=hrd 10 (by omega)
 simp only[i0.enc,l_o,l_p,hx,H8]at q q0 q4
 clear hx hrd
 by_cases d2:(w2.R i).worth<prc C.ss (w2.R i)
 ·rw[if_pos d2]at hK
  refine Wc q d2 ?_
  refine cV (a2O S W2 hul hA hi2) ?_
  clear S q q0 q4
  intro h S
  have W3:(j5 w2 i).wf U m:=W2.release hi2
  have B3:Bnd (n+1) (j5 w2 i):=B2.rel
  have hi3:i<(j5 w2 i).s.R.length:=by rw[D4];exact hi2
  refine Wa ?_
  refine cV (a6z (w2.R i).worth S W3 (by omega) B3 (by omega) hw2 hA hi3) ?_
  clear S
  intro h S
  have W4:=a6A (s:=(w2.R i).worth) W3 hi3
  refine Wa ?_
  refine cV (J9 S W4.1 (by omega) hA (by rw[W4.2];exact hi3)) ?_
  clear S
  intro h S
  refine Wa ?_
  exact hK _ _ ⟨rfl,S⟩
 ·rw[if_neg d2]at hK
  refine Wc q d2 ?_
  refine dE ?_
  refine Wc q0 q4 ?_
  refine cV (a6C 3 (w2.R i).num (w2.R i).res S W2 (by omega)) ?_
  clear S q q0 q4
  intro h S
  have W3:=W2.say 3 (w2.R i).num (w2.R i).res
  have B3:=B2.say 3 (w2.R i).num (w2.R i).res
  have hi3:i<(I4 w2 3 (w2.R i).num (w2.R i).res).s.R.length:=hi2
  refine Wa ?_
  refine cV (a6z ((w2.R i).worth-prc C.ss (w2.R i)) S W3 (by omega) B3 (by omega) ⟨by omega,by omega⟩ hA hi3) ?_
  clear S
  intro h S
  have W4:=a6A (s:=(w2.R i).worth-prc C.ss (w2.R i)) W3 hi3
  refine Wa ?_
  refine cV (J9 S W4.1 (by omega) hA (by rw[W4.2];exact hi3)) ?_
  clear S
  intro h S
  refine Wa ?_
  exact hK _ _ ⟨rfl,S⟩
end
end
end Go.Proofs.YtjagmebglhbdkaaGreat.MX
