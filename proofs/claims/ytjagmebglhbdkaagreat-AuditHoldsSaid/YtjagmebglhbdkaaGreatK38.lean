import Derived.Test.YtjagmebglhbdkaaGreatK37
namespace Go.Proofs.YtjagmebglhbdkaaGreat.MX
open Go Go.Proofs
set_option linter.unusedSimpArgs false
set_option linter.unusedVariables false
section
set_option maxHeartbeats 16000000
theorem c1p(p:Pol)(days:Int)(wants:Bool)(hp:p.right)(h:c9):d8 Tryz.prog 28 [.agg p.enc.toArray,.int .i64 days,.bool wants] h fun v h'=>v= .int .i64 (b1V p days wants)∧Fr h h' []:=by
 have S:=St.nil h
 have hd:b1V p days wants=if p.fin=true∨p.exc=true∧wants=false then 12 else if days<0∨p.w<days then 11 else 0:=rfl
 rcases p with⟨w,fin,exc,cre,f0,f1,f2,f3,s0,t0,s1,t1,s2,t2,s3,t3⟩
 simp only at hd
 refine EN i28.eq_1 fun K hK=>Wa ?_
 (revert S;(try clear F);refine AL fun b h S F=> ?_)
 refine Wc F @Pol.enc.eq_1 ?_
 refine cI (a6M (⟨w,fin,exc,cre,f0,f1,f2,f3,s0,t0,s1,t1,s2,t2,s3,t3⟩:Pol) _) ?_
 rintro _ h ⟨rfl,g1⟩
 have S:=S.frame g1
 rw[dT hp]
 ((try clear F);have F:=S.fx)
 have hgo:∀(e:Int),b1V ⟨w,fin,exc,cre,f0,f1,f2,f3,s0,t0,s1,t1,s2,t2,s3,t3⟩ days wants=e→K (.int .i64 e) h:=fun e he=>hK _ _ ⟨by rw[he],S.fr⟩
 clear hK
 cases fin
 ·cases exc
  ·rw[if_neg (by simp)]at hd
   by_cases d1:days<0
   ·rw[if_pos (.inl d1)]at hd
    refine Wc F @Pol.enc.eq_1 ?_
    exact hgo _ hd
   by_cases d2:w<days
   ·rw[if_pos (.inr d2)]at hd
    refine Wc F @Pol.enc.eq_1 ?_
    exact hgo _ hd
   rw[if_neg (fun h=>h.elim d1 d2)]at hd
   refine Wc F @Pol.enc.eq_1 ?_
   exact hgo _ hd
  ·cases wants
   ·rw[if_pos (by simp)]at hd
    refine Wc F @Pol.enc.eq_1 ?_
    exact hgo _ hd
   ·rw[if_neg (by simp)]at hd
    by_cases d1:days<0
    ·rw[if_pos (.inl d1)]at hd
     refine Wc F @Pol.enc.eq_1 ?_
     exact hgo _ hd
    by_cases d2:w<days
    ·rw[if_pos (.inr d2)]at hd
     refine Wc F @Pol.enc.eq_1 ?_
     exact hgo _ hd
    rw[if_neg (fun h=>h.elim d1 d2)]at hd
    refine Wc F @Pol.enc.eq_1 ?_
    exact hgo _ hd
 ·rw[if_pos (.inl rfl)]at hd
  refine Wc F @Pol.enc.eq_1 ?_
  exact hgo _ hd
theorem b6N{s:Sag}(hn:∀r∈s.R,1≤r.num)(u:Int):0≤L3 s u:=by
 unfold L3
 cases hf:s.R.find? fun r=> !decide (6≤r.state∧r.state≤9)&&r.us.contains u with
 |none=>exact Int.le_refl 0
 |some r=>have:=hn r (List.mem_of_find?_eq_some hf);show 0≤r.num;omega
section
variable{h0 h:c9}{l:List HP}{L:V3}{C:Cfg}{w:Wk}{U:List Unt}{m n b i:Nat}{Au:Option Addr}{cu:Nat}
theorem b6m(x:j0)(hc:∀h',St h0 h' l→C.rd h')(hu:∀h',St h0 h' l→Arr Unt.enc 4 h' Au U)(hx:∀h',St h0 h' l→Arr i6 1 h' x.A x.c.us)(hxl:x.c.us.length<1000000)(hD:Stc C U)(ho:0≤x.c.ord∧x.c.ord<C.os.length)
  (hu0:∀u∈x.c.us,0≤u) (hr0:0≤x.c.rea) (S:St h0 h (n9 L C (.slice Au U.length cu) w::l)) (W:w.wf U m) (hst:∀r∈w.s.R,1≤r.state∧r.state≤9) (hnn:∀r∈w.s.R,1≤r.num):
  d8 Tryz.prog 158 [.pointer (some ⟨L.p,0,none⟩),.agg x.enc.toArray] h fun v h'=>v= .int .i64 (N6 C.ps C.os U w.s x.c)∧St h0 h' (n9 L C (.slice Au U.length cu) w::l):=by
 have hul:=hD.ul
 have hol:=hD.cfg.2.1
 have hnow:=W.now
 have hkl:=W.kl
 have hd:N6 C.ps C.os U w.s x.c=if dcd (∀i,i<x.c.us.length→E6 U x.c i)=false then 1 else if x.c.rea<0∨4≤x.c.rea∨1000<x.c.want then 1 else a0t (G1 C.ps C.os U w.s x.c) x.c.us:=rfl
 generalize N6 C.ps C.os U w.s x.c=E at*
 refine EN i158.eq_1 fun K hK=>Wa ?_
 (revert S;(try clear F);refine AL fun g h S F=> ?_)
 have S:St h0 h (n9 L C (.slice Au U.length cu) w::d9 g x.enc 44::l):=S.p1
 have F:∀off,rd1 h (.pointer (some ⟨g,off,none⟩))=x.enc[off]? :=fun off=>j3 S.p1.blk
 refine Wc F @j0.enc.eq_1 ?_
 refine LKp (Nat.zero_add 0) [0,3,12] (fun ρ h'=>∃i:Nat,ρ 13= .int .i64 i∧i≤x.c.us.length∧(∀j,j<i→E6 U x.c j)∧h'=h) (fun ρ _=>x.c.us.length-(iv (ρ 13)).toNat) ?_ ?_
 ·refine Wa ?_
  exact⟨0,rfl,by omega,fun j hj=>absurd hj (by omega)⟩
 rintro ρ h J ⟨e0,e3,e12⟩ hJ ⟨i,e13,hi,hok,rfl⟩
 refine Wc e12 e13 ?_
 refine cD (fun hlt=> ?_) (fun hlt=> ?_)
 ·have hil:i<x.c.us.length:=by omega
  obtain⟨b1,o1,hA1,q1⟩:=(hx _ S.tl.tl).at hil
  have q1:=rP0 q1 (by omega)
  simp only[i6,l_o,m9]at q1
  have hpos:=hu0 _ (l_v hil)
  rw[←l7]at q1 hpos
  have hbad:¬E6 U x.c i→E=1:=fun hn=>by rw[hd,if_pos (dF fun h=>hn (h i hil))]
  have hgo:E6 U x.c i→∀j,j<i+1→E6 U x.c j:=fun hx j hj=>by
   by_cases e:j=i
   ·rw[e];exact hx
   ·exact hok j (by omega)
  have hU:E6 U x.c i↔((0<i→x.c.us.getD (i-1) 0<x.c.us.getD i 0)∧0≤x.c.us.getD i 0∧x.c.us.getD i 0<U.length∧(j9 U (x.c.us.getD i 0)).ord=x.c.ord):=Iff.rfl
  have F2:=S.mrU
  have q4':∀n:Nat,n<U.length→∃b4 o4,Au=some ⟨b4,o4,none⟩∧rd1 h (.pointer (some ⟨b4,o4+n*4,none⟩))=some (.int .i64 (j9 U n).ord):=fun n hn=>by
   obtain⟨b4,o4,hA4,q4⟩:=(hu _ S.tl.tl).at hn
   have q40:=rP0 q4 (by omega)
   simp only[Unt.enc,l_o]at q40
   refine⟨b4,o4,hA4,?_⟩
   have hat:j9 U (n:Int)=U[n]:=by rw[j9,K0,l_s,l_r hn];rfl
   rw[hat]
   exact q40
  by_cases c2:0<i
  ·obtain⟨j,rfl⟩:∃j,i=j+1:=⟨i-1,by omega⟩
   obtain⟨b3,o3,hA3,q3⟩:=(hx _ S.tl.tl).at (i:=j) (by omega)
   rw[hA1]at hA3
   cases hA3
   have q3:=rP0 q3 (by omega)
   simp only[i6,l_o,m9]at q3
   rw[←l7]at q3
   have hj1:((j+1:Nat):Int)-1=(j:Int):=by omega
   have hj0:(0:Int)<((j+1:Nat):Int):=by omega
   rw[a4E]at hU
   generalize x.c.us.getD (j+1) 0=u at*
   generalize x.c.us.getD j 0=u' at*
   by_cases c3:u≤u'
   ·refine Wh e3 e13 F @j0.enc.eq_1 hA1 q1 @m9 ?_
    refine dE ?_
    refine Wi e3 F @j0.enc.eq_1 hA1 hj0 hj1 q3 (Pc c3 @m9) ?_
    exact hK _ _ ⟨by rw[hbad fun h=>by have:=(hU.1 h).1 (by omega);omega],S.d1⟩
   by_cases c5:(U.length:Int)≤u
   ·refine Wh e3 e13 F @j0.enc.eq_1 hA1 q1 @m9 ?_
    refine dE ?_
    refine Wi e0 e3 F F2 @j0.enc.eq_1 hA1 hj0 (Pf hj1 q3 c3 @m9 c5) ?_
    exact hK _ _ ⟨by rw[hbad fun h=>by have:=(hU.1 h).2.2.1;omega],S.d1⟩
   obtain⟨n,rfl⟩:=l_u hpos
   obtain⟨b4,o4,hA4,q4⟩:=q4' n (by omega)
   by_cases c6:(j9 U n).ord=x.c.ord
   case neg=>
    refine Wh e3 e13 F @j0.enc.eq_1 hA1 q1 @m9 ?_
    refine dE ?_
    refine Wi e0 e3 F F2 @j0.enc.eq_1 hA1 hA4 (Pf hj0 hj1 q3 q4 (Pe c3 @m9 c5 c6)) ?_
    exact hK _ _ ⟨by rw[hbad fun h=>c6 (hU.1 h).2.2.2],S.d1⟩
   refine Wh e3 e13 F @j0.enc.eq_1 hA1 q1 @m9 ?_
   refine dE ?_
   refine Wi e0 e3 F F2 @j0.enc.eq_1 hA1 hA4 (Pf hj0 hj1 q3 q4 (Pf c3 @m9 c5 c6 e13)) ?_
   refine hJ _ _ ?_ ?_
   ·refine Wa ?_
    exact⟨j+1+1,rfl,by omega,hgo (hU.2 ⟨fun _=>by omega,by omega,by omega,c6⟩)⟩
   ·refine Wb e13 ?_
    omega
  ·obtain rfl:i=0:=by omega
   rw[H8]at q1
   generalize x.c.us.getD 0 0=u at*
   by_cases c5:(U.length:Int)≤u
   ·refine Wh e3 e13 F @j0.enc.eq_1 hA1 q1 @m9 ?_
    refine dE ?_
    refine Wi e0 e3 F F2 @j0.enc.eq_1 hA1 @m9 c5 ?_
    exact hK _ _ ⟨by rw[hbad fun h=>by have:=(hU.1 h).2.2.1;omega],S.d1⟩
   obtain⟨n,rfl⟩:=l_u hpos
   obtain⟨b4,o4,hA4,q4⟩:=q4' n (by omega)
   by_cases c6:(j9 U n).ord=x.c.ord
   case neg=>
    refine Wh e3 e13 F @j0.enc.eq_1 hA1 q1 @m9 ?_
    refine dE ?_
    refine Wi e0 e3 F F2 @j0.enc.eq_1 hA1 hA4 (Pe q4 @m9 c5 c6) ?_
    exact hK _ _ ⟨by rw[hbad fun h=>c6 (hU.1 h).2.2.2],S.d1⟩
   refine Wh e3 e13 F @j0.enc.eq_1 hA1 q1 @m9 ?_
   refine dE ?_
   refine Wi e0 e3 F F2 @j0.enc.eq_1 hA1 hA4 (Pf q4 @m9 c5 c6 e13) ?_
   refine hJ _ _ ?_ ?_
   ·refine Wa ?_
    exact⟨1,rfl,by omega,hgo (hU.2 ⟨fun h=>absurd h (by omega),by omega,by omega,c6⟩)⟩
   ·refine Wb e13 ?_
    omega
 obtain rfl:i=x.c.us.length:=by omega
 rw[if_neg (by rw[dT hok];decide)]at hd
 by_cases k2:4≤x.c.rea
 ·rw[if_pos (.inr (.inl k2))]at hd
  (try simp(disch:=first|omega|assumption|exact l_a rfl) only[go_sem,↓wBk,simprocAttr,e3,F,j0.enc,show(3:Int)<x.c.rea by omega])
  exact hK _ _ ⟨by rw[hd],S.d1⟩
 have k2':¬3<x.c.rea:=by omega
 by_cases k3:1000<x.c.want
 ·rw[if_pos (.inr (.inr k3))]at hd
  refine Wf e3 F @j0.enc.eq_1 k2' k3 ?_
  exact hK _ _ ⟨by rw[hd],S.d1⟩
 rw[if_neg (fun h=>h.elim (by omega) fun h=>h.elim k2 k3)]at hd
 refine Wf e3 F @j0.enc.eq_1 k2' k3 ?_
 clear hJ e12 e13 hi hlt
 refine LKp (Pc e0 e3) [0,3,66] (fun ρ h'=>∃i:Nat,ρ 67= .int .i64 i∧i≤x.c.us.length∧(∀u∈x.c.us.take i,G1 C.ps C.os U w.s x.c u=0)∧St h0 h' (n9 L C (.slice Au U.length cu) w::d9 g x.enc 44::l)) (fun ρ _=>x.c.us.length-(iv (ρ 67)).toNat) ?_ ?_
 ·refine Wa ?_
  exact⟨0,rfl,by omega,by simp,S⟩
 clear S F e0 e3
 rintro ρ h J ⟨e0,e3,e66⟩ hJ ⟨i,e67,hi,hno,S⟩
 have F:∀off,rd1 h (.pointer (some ⟨g,off,none⟩))=x.enc[off]? :=fun off=>j3 S.p1.blk
 refine Wc e66 e67 ?_
 refine cD (fun hlt=> ?_) (fun hlt=> ?_)
 ·have hil:i<x.c.us.length:=by omega
  obtain⟨b1,o1,hA1,q1⟩:=(hx _ S.tl.tl).at hil
  have q1:=rP0 q1 (by omega)
  simp only[i6,l_o,m9]at q1
  have hbad:G1 C.ps C.os U w.s x.c x.c.us[i]≠0→E=G1 C.ps C.os U w.s x.c x.c.us[i]:=fun hn=>by rw[hd];exact a5m hil hno hn
  have hgo:G1 C.ps C.os U w.s x.c x.c.us[i]=0→∀u∈x.c.us.take (i+1),G1 C.ps C.os U w.s x.c u=0:=fun hx r hr=>by
   rw[l_t hil]at hr
   rcases List.mem_append.1 hr with hr|hr
   ·exact hno r hr
   ·rw[U1]at hr;rw[hr];exact hx
  obtain⟨_,hu0,huU,_⟩:=hok i hil
  rw[l7 hil]at hu0 huU
  generalize x.c.us[i]=u at*
  obtain⟨n,rfl⟩:=l_u hu0
  have hnK:n<w.s.K.length:=by omega
  obtain⟨Q,hQ⟩:∃Q,Q=G1 C.ps C.os U w.s x.c n:=⟨_,rfl⟩
  have hw:Q=if i5 w.s.K n≠0∨0<L3 w.s n then 13 else b1V (C8 C.ps (j9 U n).cat) (w.s.now-((C.os[x.c.ord.toNat]?).map Odr.day).getD 0) (decide (0<x.c.want)):=hQ
  rw[←hQ]at hbad hgo
  clear hQ
  have hpl:i5 w.s.K (n:Int)=w.s.K[n].place:=by
   unfold i5
   rw[if_pos (by omega),K0,l_r hnK]
   rfl
  obtain⟨k,t,o,sd,vs,hv,S1⟩:=St.mo.1 S
  have F2:=S1.moF
  obtain⟨Ak,ck,rfl⟩:=(St.p1 S1).sl
  obtain⟨bk,rfl⟩:=(St.p1 S1).ownAt (by omega)
  have hp:=u2 KU.enc_len (St.p1 S1) (i:=n) (j:=0) hnK (by omega)
  simp only[KU.enc,l_o,H8]at hp
  rw[←hpl]at hp
  clear S1 hpl
  by_cases d1:i5 w.s.K n=0
  case neg=>
   rw[if_pos (.inl d1)]at hw
   refine Wi e0 e3 e67 F @j0.enc.eq_1 hA1 q1 (Pf F2 @x6.eq_1 hp @m9 d1) ?_
   exact hK _ _ ⟨by rw[hbad (by rw[hw];decide),hw],S.d1⟩
  refine Wi e0 e3 e67 F @j0.enc.eq_1 hA1 q1 (Pf F2 @x6.eq_1 hp @m9 d1) ?_
  clear F2 hp
  refine cI (b2S (n:Int) S W hst) ?_
  rintro _ h ⟨rfl,rfl⟩
  have hnn0:=b6N hnn (n:Int)
  by_cases d2:0<L3 w.s n
  ·rw[if_pos (.inr d2)]at hw
   (try simp(disch:=first|omega|assumption|exact l_a rfl) only[go_sem,↓wBk,simprocAttr,show ¬L3 w.s (n:Int)=0 by omega])
   exact hK _ _ ⟨by rw[hbad (by rw[hw];decide),hw],S.d1⟩
  rw[if_neg (fun h=>h.elim (fun h=>h d1) d2)]at hw
  (try simp(disch:=first|omega|assumption|exact l_a rfl) only[go_sem,↓wBk,simprocAttr,show L3 w.s (n:Int)=0 by omega])
  obtain⟨k,hk⟩:=l_u ho.1
  have hkl:k<C.os.length:=by omega
  rw[hk,K0,l_r hkl]at hw
  simp only[Option.map_some,Option.getD_some]at hw
  have hday:=(hD.cfg.2.2.2.1 _ (l_v hkl)).1.1
  obtain⟨bo,oo,hAo,_⟩:=(hc _ S.tl.tl).os.at hkl
  have hqd:∀h',St h0 h' l→rd1 h' (.pointer (some ⟨bo,oo+k*5,none⟩))=some (.int .i64 (C.os[k]).day):=fun h' S=>by
   obtain⟨b5,o5,hA5,q5⟩:=(hc _ S).os.at hkl
   rw[hAo]at hA5
   cases hA5
   have p5:=rP0 q5 (by omega)
   simpa only[Odr.enc,l_o]using p5
  generalize C.os[k]=o at*
  have r14:∀K t,j8 (fun h'=>St h0 h' (n9 L C (.slice Au U.length cu) w::d9 g x.enc 44::l)) (fun h'=>rd1 h' (.pointer (some ⟨L.p,14,none⟩))) K t=K (.int .i64 w.s.now):=fun K t=>rI (fun h' S=>S.mrNow) h S
  have r0:∀K t,j8 (fun h'=>St h0 h' (n9 L C (.slice Au U.length cu) w::d9 g x.enc 44::l)) (fun h'=>rd1 h' (.pointer (some ⟨L.p,0,none⟩))) K t=K (.slice (some ⟨bo,oo,none⟩) C.os.length C.c1):=fun K t=>rI (fun h' S=>by rw[S.mrOs,hAo]) h S
  have r1:∀K t,j8 (fun h'=>St h0 h' (n9 L C (.slice Au U.length cu) w::d9 g x.enc 44::l)) (fun h'=>rd1 h' (.pointer (some ⟨g,1,none⟩))) K t=K (.int .i64 k):=fun K t=>rI (fun h' S=>by rw[j3 S.tl.blk,←hk];rfl) h S
  have r4:∀K t,j8 (fun h'=>St h0 h' (n9 L C (.slice Au U.length cu) w::d9 g x.enc 44::l)) (fun h'=>rd1 h' (.pointer (some ⟨g,4,none⟩))) K t=K (.int .i64 x.c.want):=fun K t=>rI (fun h' S=>by rw[j3 S.tl.blk];rfl) h S
  have rd:∀K t,j8 (fun h'=>St h0 h' (n9 L C (.slice Au U.length cu) w::d9 g x.enc 44::l)) (fun h'=>rd1 h' (.pointer (some ⟨bo,oo+k*5,none⟩))) K t=K (.int .i64 o.day):=fun K t=>rI (fun h' S=>hqd _ S.tl.tl) h S
  have hPr:=K8 hD.cfg.1 (j9 U n).cat
  obtain⟨wb,hwb⟩:∃wb,wb=decide (0<x.c.want):=⟨_,rfl⟩
  have hwd:dcd (0<x.c.want)=wb:=by
   rw[hwb]
   by_cases e:0<x.c.want
   ·rw[dT e];simp[e]
   ·rw[dF e];simp[e]
  rw[←hwb]at hw
  refine dI (fun h'=>St h0 h' (n9 L C (.slice Au U.length cu) w::d9 g x.enc 44::l)) S ?_
  refine Wi e0 e3 r14 r0 r1 r4 rd hwd ?_
  refine cI (a3X n (by omega) (fun h' S=>hc h' S.tl) (fun h' S=>hu h' S.tl) hD S) ?_
  clear S r14 r0 r1 r4 rd hqd F
  rintro _ h ⟨rfl,S⟩
  refine⟨S,?_⟩
  refine Wb hwd ?_
  refine cI (c1p _ (w.s.now-o.day) wb hPr _) ?_
  rintro _ h ⟨rfl,f1⟩
  have S:=S.frame f1
  clear f1
  rw[←hw]
  by_cases d3:Q=0
  ·refine Wc d3 e67 ?_
   refine hJ _ _ ?_ ?_
   ·refine Wa ?_
    exact⟨i+1,rfl,by omega,hgo d3,S⟩
   ·refine Wb e67 ?_
    omega
  ·refine Wb d3 ?_
   exact hK _ _ ⟨by rw[hbad d3],S.d1⟩
 obtain rfl:i=x.c.us.length:=by omega
 rw[C9]at hno
 refine Wa ?_
 exact hK _ _ ⟨by rw[hd,a5n hno],S.d1⟩
end
end
section
set_option maxHeartbeats 16000000
def resQ(h0:c9)(L:Loc)(D:Cfg)(u:Value)(l:List HP)(x:Except Int (Int×Wk))(v:Value)(h':c9):Prop:=match x with
 | .error e=>e≠0∧v= .tuple #[.int .i64 0,.int .i64 e]∧St h0 h' l
 | .ok y=>v= .tuple #[.int .i64 y.1,.int .i64 0]∧∃A c,St h0 h' (wkA {L with A:=A,c:=c} D u y.2::l)
def a1b(ps:List Pol)(U:List Unt)(now num j:Int)(c:Cmd)(i:Nat):Ret:=
 ⟨num,c.ord,c.rea,c.want,j,c.cred||(c.us.take i).any fun u=>(C8 ps (j9 U u).cat).cre,1,now,c.us.take i,(c.us.take i).map fun _=> -1,0,0,0,0⟩
theorem a9A{ps:List Pol}{U:List Unt}{now num j:Int}{c:Cmd}{i:Nat}(hi:i<c.us.length):
  a1b ps U now num j c (i+1)={a1b ps U now num j c i with us:=(a1b ps U now num j c i).us++ [c.us[i]],gs:=(a1b ps U now num j c i).gs++ [-1],cred:=(a1b ps U now num j c i).cred||(C8 ps (j9 U c.us[i]).cat).cre}:=by
 simp only[a1b,l_t hi,List.any_append,L7,List.any_cons,List.any_nil,Bool.or_false,Bool.or_assoc,G7,List.map_nil]
theorem b5y{U:List Unt}{m:Nat}{w:Wk}{k n v:Int}(h:(I4 w k n v).wf U m)(hk:1≤w.s.key):w.wf U m:=
 ⟨h.kl,h.rl,h.rr,h.tg,h.tn,by have:=h.ol;simp only[I4,l_m,l_f,l_g]at this;omega,fun x hx=>h.ot x (Y0 _ hx),by have:=h.key;simp only[I4]at this;omega,by have:=h.sl;simp only[I4,l_m,l_f,l_g]at this;omega,h.now⟩
theorem b2f(c r k t o s q y g:HP)(rows l:List HP):(c::r::k::t::o::s::(rows++(q::y::g::l))).Perm (c::k::t::o::r::s::((rows++ [y])++(q::g::l))):=by
 refine List.Perm.cons _ ((u6 [k,t,o] r (s::(rows++(q::y::g::l)))).symm.trans ?_)
 refine List.Perm.append_left [k,t,o,r,s] ?_
 show(rows++(q::y::g::l)).Perm ((rows++ [y])++(q::g::l))
 rw[l_q]
 exact List.Perm.append_left rows (List.Perm.swap _ _ _)
section
variable{h0 h:c9}{l:List HP}{L:Loc}{D:Cfg}{w:Wk}{U:List Unt}{m b i:Nat}{Au:Option Addr}{cu:Nat}
theorem b3S(x:j0)(hc:∀h',St h0 h' l→D.rd h')(hu:∀h',St h0 h' l→Arr Unt.enc 4 h' Au U)(hx:∀h',St h0 h' l→Arr i6 1 h' x.A x.c.us)(hxl:1≤x.c.us.length∧x.c.us.length≤200)(hD:Stc D U)
  (S:St h0 h (wkA L D (.slice Au U.length cu) w::l)) (W:w.wf U m) (hm:m<390000):
  d8 Tryz.prog 89 [.pointer (some ⟨L.p,0,none⟩),.agg x.enc.toArray] h fun v h'=>resQ h0 L D (.slice Au U.length cu) l (E5 D.ps D.os D.ss U w x.c) v h':=by
 have hul:=hD.ul
 have hol:=hD.cfg.2.1
 have hrl:=W.rl
 obtain⟨rq,hrq⟩:∃rq,rq=E5 D.ps D.os D.ss U w x.c:=⟨_,rfl⟩
 have hd:=hrq
 unfold E5 at hd
 have hwf:∀y,rq= .ok y→y.2.wf U (m+1):=fun y hy=>a1R hD.ul hxl (by rw[←hrq];exact hy) W
 rw[←hrq]
 clear hrq
 refine EN i89.eq_1 fun K hK=>Wa ?_
 (revert S;(try clear F);refine AL fun g h S F=> ?_)
 have S:St h0 h (wkA L D (.slice Au U.length cu) w::d9 g x.enc 42::l):=S.p1
 obtain⟨sd,M,Sc,_⟩:=S.wkCell
 have F2:=Sc.fx
 ((try clear F);have F:=S.fx)
 by_cases k1:100≤w.s.R.length
 ·rw[if_pos k1]at hd
  (try simp(disch:=first|omega|assumption|exact l_a rfl) only[go_sem,↓wBk,simprocAttr,F2,t8,show(100:Int)≤w.s.R.length by omega])
  rw[hd]at hK
  exact hK _ _ ⟨by decide,rfl,S.tl.tl⟩
 rw[if_neg k1]at hd
 by_cases k2:x.c.ord<0
 ·rw[if_pos (.inl k2)]at hd
  (try simp(disch:=first|omega|assumption|exact l_a rfl) only[go_sem,↓wBk,simprocAttr,F2,t8,show ¬(100:Int)≤w.s.R.length by omega])
  refine dE ?_
  refine Wd F @j0.enc.eq_1 k2 ?_
  rw[hd]at hK
  exact hK _ _ ⟨by decide,rfl,S.tl.tl⟩
 by_cases k3:(D.os.length:Int)≤x.c.ord
 ·rw[if_pos (.inr k3)]at hd
  (try simp(disch:=first|omega|assumption|exact l_a rfl) only[go_sem,↓wBk,simprocAttr,F2,t8,show ¬(100:Int)≤w.s.R.length by omega])
  refine dE ?_
  refine Wg F F2 @t8.eq_1 @j0.enc.eq_1 k2 k3 ?_
  rw[hd]at hK
  exact hK _ _ ⟨by decide,rfl,S.tl.tl⟩
 rw[if_neg (fun h=>h.elim k2 k3)]at hd
 (try simp(disch:=first|omega|assumption|exact l_a rfl) only[go_sem,↓wBk,simprocAttr,F2,t8,show ¬(100:Int)≤w.s.R.length by omega])
 refine dE ?_
 refine Wg F F2 @t8.eq_1 @j0.enc.eq_1 k2 k3 ?_
 clear F F2 Sc
 refine cI (b7t x (fun h' S=>hc _ S.tl) (fun h' S=>hu _ S.tl) (fun h' S=>hx _ S.tl) (by omega) hD (by omega) S W) ?_
 clear S
 rintro _ h ⟨rfl,S⟩
 by_cases k4:N6 D.ps D.os U w.s x.c=0
 case neg=>
  rw[if_pos k4]at hd
  refine Wb k4 ?_
  rw[hd]at hK
  exact hK _ _ ⟨k4,rfl,S.tl.tl⟩
 rw[if_neg (fun h=>h k4)]at hd
 have hask:∀i,i<x.c.us.length→E6 U x.c i:=by
  have h2:=k4
  unfold N6 at h2
  split at h2
  ·simp at h2
  ·rename_i hd
   exact s7 (by cases hd':dcd (∀i,i<x.c.us.length→E6 U x.c i)with|false=>exact absurd hd' hd|true=>rfl)
 ((try clear F);have F:=S.fx)
 refine Wd k4 F @j0.enc.eq_1 ?_
 clear F
 refine cI (b7I x.c.want (fun h' S=>hc _ S.tl) hD S W) ?_
 clear S
 have hww:=fun y=>a5K (ss:=D.ss) (sku:=x.c.want) (x:=y) (w:=w) (m:=m) (U:=U)
 cases hwp:X1 D.ss w x.c.want with
 |error e=>
  rw[hwp]at hd
  rintro _ h ⟨he,rfl,S⟩
  refine Wb he ?_
  rw[hd]at hK
  exact hK _ _ ⟨he,rfl,S.tl⟩
 |ok y=>
 obtain⟨j,w1⟩:=y
 rw[hwp]at hd
 obtain⟨W1,hR1,hn1⟩:=hww _ hwp W
 clear hww hwp
 rintro _ h ⟨rfl,S⟩
 simp only at S W1 hR1 hn1
 simp only[Except.map]at hd
 have hcell:∀h',St h0 h' (wkA L D (.slice Au U.length cu) w1::d9 g x.enc 42::l)→∃sd,blk h' L.p=some (t8 D (.slice Au U.length cu) L.k L.t L.o (.slice L.A w1.s.R.length L.c) sd w1.s,113,(0,0)):=fun h' S=>by
  obtain⟨sd,M,Sc,_⟩:=S.wkCell
  exact⟨sd,Sc.blk⟩
 obtain⟨LO,hLO⟩:∃LO,LO=(wkA L D (.slice Au U.length cu) w1::d9 g x.enc 42::l):=⟨_,rfl⟩
 have r13:∀K t,j8 (fun h'=>St h0 h' LO) (fun h'=>rd1 h' (.pointer (some ⟨L.p,13,none⟩))) K t=K (.int .i64 w.s.now):=fun K t=>rI (fun h' S=>by obtain⟨sd,hb⟩:=hcell _ (hLO▸S);rw[j3 hb,←hn1];rfl) h (hLO▸S)
 have r10:∀K t,j8 (fun h'=>St h0 h' LO) (fun h'=>rd1 h' (.pointer (some ⟨L.p,10,none⟩))) K t=K (.slice L.A w.s.R.length L.c):=fun K t=>rI (fun h' S=>by obtain⟨sd,hb⟩:=hcell _ (hLO▸S);rw[j3 hb,←hR1];rfl) h (hLO▸S)
 have rg:∀(off:Nat) (v:Value),x.enc[off]? =some v→∀K t,j8 (fun h'=>St h0 h' LO) (fun h'=>rd1 h' (.pointer (some ⟨g,off,none⟩))) K t=K v:=fun off v hv K t=>rI (fun h' S=>by rw[hLO]at S;rw[j3 S.tl.blk];exact hv) h (hLO▸S)
 have r1:=rg 1 _ rfl
 have r3:=rg 3 _ rfl
 have r4:=rg 4 _ rfl
 have r5:=rg 5 _ rfl
 refine Wa ?_
 refine cS (hLO▸S:St h0 h LO) (fun ρ' h'=>ρ' 0= .pointer (some ⟨L.p,0,none⟩)∧ρ' 3= .pointer (some ⟨g,0,none⟩)∧∃q,ρ' 9= .pointer (some ⟨q,0,none⟩)∧∃y:i0,y.r=a1b D.ps U w.s.now (w.s.R.length+1) j x.c 0∧St h0 h' (d9 q y.enc 136::j2 y::LO)) ?_ ?_
 ·intro J hJ
  refine Wg r13 r10 r1 r3 r4 r5 ?_
  (revert S;(try clear F);refine AL fun q h S F=> ?_)
  refine⟨by rw[hLO];exact S.tl,?_⟩
  refine Wa ?_
  refine tS S rfl rfl (l_a rfl) ?_
  clear S F r13 r10 r1 r3 r4 r5 rg
  intro h S
  replace S:=S.nm
  refine hJ _ _ ?_
  refine Wa ?_
  refine⟨q,rfl,⟨a1b D.ps U w.s.now (w.s.R.length+1) j x.c 0,none,0,none,0⟩,rfl,?_⟩
  rw[hLO]
  have e:(a1b D.ps U w.s.now (w.s.R.length+1) j x.c 0).cred=x.c.cred:=by simp[a1b]
  rw[i0.enc]
  simp only[e]
  refine St.p1 (St.star.2 ?_)
  exact St.nilS (St.nilS S)
 clear S r13 r10 r1 r3 r4 r5 rg hcell
 rintro ρ h ⟨e0,e3,q,e9,y,hy,S⟩
 rw[hLO]at S
 clear hLO
 have F1:=m8 (off:=2) S.p3
 simp only[j0.enc,l_p,l_o]at F1
 refine Wc e3 F1 ?_
 clear F1
 have p0:=e0
 have p3:=e3
 have p9:=e9
 clear e0 e3 e9
 refine lI (fun ρ h'=>ρ 0= .pointer (some ⟨L.p,0,none⟩)∧ρ 3= .pointer (some ⟨g,0,none⟩)∧ρ 9= .pointer (some ⟨q,0,none⟩)∧ρ 71= .slice x.A x.c.us.length x.n∧ρ 72= .int .i64 x.c.us.length∧∃i:Nat,ρ 73= .int .i64 i∧i≤x.c.us.length∧
  ∃y:i0,y.r=a1b D.ps U w.s.now (w.s.R.length+1) j x.c i∧St h0 h' (d9 q y.enc 136::j2 y::wkA L D (.slice Au U.length cu) w1::d9 g x.enc 42::l)) (fun ρ _=>x.c.us.length-(iv (ρ 73)).toNat) ?_ ?_
 ·refine Wd p0 p3 p9 ?_
  exact⟨0,rfl,by omega,y,hy,S⟩
 clear S p0 p3 p9 hy
 rintro ρ h J hJ ⟨e0,e3,e9,e71,e72,i,e73,hi,y,hy,S⟩
 refine Wc e72 e73 ?_
 refine cD (fun hlt=> ?_) (fun hlt=> ?_)
 ·have hil:i<x.c.us.length:=by omega
  obtain⟨b1,o1,hA1,q1⟩:=(hx _ S.tl.tl.tl.tl).at hil
  have q1:=rP0 q1 (by omega)
  simp only[i6,l_o,m9]at q1
  have hsucc:=a9A (ps:=D.ps) (U:=U) (now:=w.s.now) (num:=w.s.R.length+1) (j:=j) hil
  have hun:∃n:Nat,x.c.us[i]=n∧n<U.length:=by
   have:=(hask i hil)
   obtain⟨_,a,b,_⟩:=this
   rw[l7 hil]at a b
   exact⟨x.c.us[i].toNat,by omega,by omega⟩
  rw[←hy]at hsucc
  have hyl:y.r.us.length=i∧y.r.gs.length=i:=by
   rw[hy]
   simp only[a1b,l_z,x4]
   omega
  obtain⟨hy1,hy2⟩:=hyl
  generalize x.c.us[i]=u at*
  obtain⟨n,rfl,hnU⟩:=hun
  have hI:∀K t,j8 (fun h'=>St h0 h' (d9 q y.enc 136::wkA L D (.slice Au U.length cu) w1::d9 g x.enc 42::l)) (fun h'=>rd1 h' (.pointer (some ⟨q,8,none⟩))) K t=K (.slice y.A y.r.us.length y.c):=fun K t=>rI (fun h' S=>by rw[j3 S.blk];rfl) h S.d1
  have hI2:∀K t,j8 (fun h'=>St h0 h' (d9 q y.enc 136::wkA L D (.slice Au U.length cu) w1::d9 g x.enc 42::l)) (fun h'=>rd1 h' (.pointer (some ⟨q,9,none⟩))) K t=K (.slice y.B y.r.gs.length y.d):=fun K t=>rI (fun h' S=>by rw[j3 S.blk];rfl) h S.d1
  refine Wf e71 e73 hA1 q1 @m9 ?_
  refine cS S.d1 (fun ρ' h'=>ρ' 0= .pointer (some ⟨L.p,0,none⟩)∧ρ' 3= .pointer (some ⟨g,0,none⟩)∧ρ' 9= .pointer (some ⟨q,0,none⟩)∧ρ' 71= .slice x.A x.c.us.length x.n∧ρ' 72= .int .i64 x.c.us.length∧ρ' 73= .int .i64 i∧ρ' 11= .int .i64 n∧
   ∃z:i0,z.r={y.r with us:=y.r.us++ [(n:Int)],gs:=y.r.gs++ [-1]}∧St h0 h' (d9 q z.enc 136::j2 z::wkA L D (.slice Au U.length cu) w1::d9 g x.enc 42::l)) ?_ ?_
  ·intro J' hJ'
   have S:=St.star.1 S.p1
   refine Wd e9 hI hI2 ?_
   refine⟨?_,?_⟩
   ·(revert S;(try clear F);refine AL fun b3 h S F=> ?_)
    refine⟨S.tl.tl.tl,?_⟩
    refine Wb e9 ?_
    refine⟨?_,?_⟩
    ·refine Wb e9 ?_
     refine tA1 (bytes:=8) (x:=(n:Int)) zEl (by omega) zEp rfl rfl S (by omega) (by omega) ?_
     clear S F
     intro va h S
     obtain⟨A',c',rfl⟩:=S.sl
     refine⟨S.tl.tl,?_⟩
     refine Wb e9 ?_
     (revert S;(try clear F);refine AL fun b7 h S F=> ?_)
     refine⟨S.tl.tl.tl,?_⟩
     refine Wb e9 ?_
     refine tA1 (bytes:=8) (x:=(-1:Int)) zEl (by omega) zEp rfl rfl S.p2.p1 (by omega) (by omega) ?_
     clear S
     intro vb h S
     obtain⟨B',d',rfl⟩:=S.sl
     refine Wb e9 ?_
     refine tS S.p2 rfl rfl (l_a rfl) ?_
     clear S
     intro h S
     rw[i0.enc]at S
     replace S:=S.nm
     refine Wb e9 ?_
     refine tS S rfl rfl (l_a rfl) ?_
     clear S
     intro h S
     replace S:=S.nm
     refine hJ' _ _ ?_
     refine Wg e0 e3 e9 e71 e72 e73 ?_
     rw[l_m,l_m]at S
     refine⟨⟨{y.r with us:=y.r.us++ [(n:Int)],gs:=y.r.gs++ [-1]},A',c',B',d'⟩,rfl,?_⟩
     rw[i0.enc]
     simp only[l_m]
     exact St.p1 (St.star.2 (by simp only[l_m];exact S.p2.p2.p1))
    ·(revert S;(try clear F);refine AL fun b7 h S F=> ?_)
     refine⟨S.tl.tl.tl.tl,?_⟩
     refine Wb e9 ?_
     refine tA1 (bytes:=8) (x:=(n:Int)) zEl (by omega) zEp rfl rfl S.p2.p2 (by omega) (by omega) ?_
     clear S F
     intro va h S
     obtain⟨A',c',rfl⟩:=S.sl
     refine⟨S.tl.tl.tl,?_⟩
     refine Wb e9 ?_
     refine tA1 (bytes:=8) (x:=(-1:Int)) zEl (by omega) zEp rfl rfl S.p2.p2 (by omega) (by omega) ?_
     clear S
     intro vb h S
     obtain⟨B',d',rfl⟩:=S.sl
     refine Wb e9 ?_
     refine tS S.p2 rfl rfl (l_a rfl) ?_
     clear S
     intro h S
     rw[i0.enc]at S
     replace S:=S.nm
     refine Wb e9 ?_
     refine tS S rfl rfl (l_a rfl) ?_
     clear S
     intro h S
     replace S:=S.nm
     refine hJ' _ _ ?_
     refine Wg e0 e3 e9 e71 e72 e73 ?_
     rw[l_m,l_m]at S
     refine⟨⟨{y.r with us:=y.r.us++ [(n:Int)],gs:=y.r.gs++ [-1]},A',c',B',d'⟩,rfl,?_⟩
     rw[i0.enc]
     simp only[l_m]
     exact St.p1 (St.star.2 (by simp only[l_m];exact S.p2.p2.p1))
   ·(revert S;(try clear F);refine AL fun b7 h S F=> ?_)
    refine⟨S.tl.tl.tl,?_⟩
    refine Wb e9 ?_
    (revert S;(try clear F);refine AL fun b3 h S F=> ?_)
    refine⟨S.tl.tl.tl.tl,?_⟩
    refine Wb e9 ?_
    refine tA1 (bytes:=8) (x:=(n:Int)) zEl (by omega) zEp rfl rfl S.p2.p1 (by omega) (by omega) ?_
    clear S F
    intro va h S
    obtain⟨A',c',rfl⟩:=S.sl
    refine⟨S.tl.tl.tl,?_⟩
    refine Wb e9 ?_
    refine tA1 (bytes:=8) (x:=(-1:Int)) zEl (by omega) zEp rfl rfl S.p2.p2 (by omega) (by omega) ?_
    clear S
    intro vb h S
    obtain⟨B',d',rfl⟩:=S.sl
    refine Wb e9 ?_
    refine tS S.p2 rfl rfl (l_a rfl) ?_
    clear S
    intro h S
    rw[i0.enc]at S
    replace S:=S.nm
    refine Wb e9 ?_
    refine tS S rfl rfl (l_a rfl) ?_
    clear S
    intro h S
    replace S:=S.nm
    refine hJ' _ _ ?_
    refine Wg e0 e3 e9 e71 e72 e73 ?_
    rw[l_m,l_m]at S
    refine⟨⟨{y.r with us:=y.r.us++ [(n:Int)],gs:=y.r.gs++ [-1]},A',c',B',d'⟩,rfl,?_⟩
    rw[i0.enc]
    simp only[l_m]
    exact St.p1 (St.star.2 (by simp only[l_m];exact S.p2.p2.p1))
  have p73:=e73
  clear S hI hI2 e0 e3 e9 e71 e72 e73
  rintro ρ' h ⟨e0,e3,e9,e71,e72,e73,e11,z,hz,S⟩
  ((try clear F);have F:=S.fx)
  cases hcr:z.r.cred
  ·have p5:=m8 (off:=5) S
   simp only[i0.enc,l_o,l_p,hcr]at p5
   refine We e0 e9 e11 p5 ?_
   have S:=S.p2
   refine cI (a3Y n hnU (fun h' S=>hc h' S.tl.tl.tl) (fun h' S=>hu h' S.tl.tl.tl) S) ?_
   clear S p5 F
   rintro _ h ⟨rfl,S⟩
   refine Wc @Pol.enc.eq_1 e9 ?_
   refine tS S.p1 rfl rfl (l_a rfl) ?_
   clear S
   intro h S
   rw[i0.enc]at S
   replace S:=S.nm
   refine Wb e73 ?_
   refine hJ _ _ ?_ ?_
   ·refine Wf e0 e3 e9 e71 e72 ?_
    refine⟨i+1,rfl,by omega,{z with r:={z.r with cred:=(C8 D.ps (j9 U n).cat).cre} },?_,S.p2.p1⟩
    rw[hsucc,hz]
    have:y.r.cred=false:=by rw[←hcr,hz]
    simp only[this,Bool.false_or]
   ·refine Wc e73 p73 ?_
    omega
  ·have p5:=m8 (off:=5) S
   simp only[i0.enc,l_o,l_p,hcr]at p5
   refine Wc e9 p5 ?_
   refine tS S rfl rfl (l_a rfl) ?_
   clear S F p5
   intro h S
   rw[i0.enc]at S
   replace S:=S.nm
   refine Wb e73 ?_
   refine hJ _ _ ?_ ?_
   ·refine Wf e0 e3 e9 e71 e72 ?_
    refine⟨i+1,rfl,by omega,{z with r:={z.r with cred:=true} },?_,S⟩
    rw[hsucc,hz]
    have:y.r.cred=true:=by rw[←hcr,hz]
    simp only[this,Bool.true_or]
   ·refine Wc e73 p73 ?_
    omega
 obtain rfl:i=x.c.us.length:=by omega
 refine Wc e0 e9 ?_
 clear hJ e71 e72 e73 hi hlt J
 have hyr:y.r=⟨w.s.R.length+1,x.c.ord,x.c.rea,x.c.want,j,x.c.cred||x.c.us.any fun u=>(C8 D.ps (j9 U u).cat).cre,1,w.s.now,x.c.us,x.c.us.map fun _=> -1,0,0,0,0⟩:=by
  rw[hy,a1b,C9]
 clear hy
 rw[←hyr]at hd
 have hynum:y.r.num=w.s.R.length+1:=by rw[hyr]
 clear hyr
 obtain⟨w3,hw3⟩:∃w3,w3={w1 with s:={w1.s with R:=w.s.R++ [y.r],T:=setT w1.s.T (w.s.R.length+1) (w.s.now+14)} }:=⟨_,rfl⟩
 rw[←hw3]at hd
 have W3:w3.wf U (m+1):=b5y (hwf _ hd) (by rw[hw3];exact W1.key.1)
 have htl:=W1.tl
 have htg:=W1.tg
 have hR1l:w1.s.R.length=w.s.R.length:=by rw[hR1]
 have hnow:=W.now
 obtain⟨sd,vs,hv,S⟩:=St.wk.1 S.p2
 rw[hR1]at hv
 rw[hR1l]at S
 have hvl:vs.length=w.s.R.length:=by rw[←hv,l_z]
 obtain⟨LO,hLO⟩:∃LO,LO=d9 L.p (t8 D (.slice Au U.length cu) L.k L.t L.o (.slice L.A w.s.R.length L.c) sd w1.s) 113::t6 L.k w1.s.K::H2 L.t w1.s.T::D8 L.o w1.s.key w1.s.O::
  i4 i0.enc 14 136 (.slice L.A w.s.R.length L.c) vs::i4 Msg.enc 6 128 sd w1.sd::(vs.map j2++(d9 q y.enc 136::j2 y::d9 g x.enc 42::l)):=⟨_,rfl⟩
 have hmq:∀h',St h0 h' LO→blk h' q=some (y.enc,136,(0,0)):=fun h' S=>by
  rw[hLO]at S
  obtain⟨M,S⟩:=Z4 S (X:=d9 q y.enc 136) (by simp)
  exact S.blk
 have S1:St h0 h LO:=hLO▸S
 have r10:∀K t,j8 (fun h'=>St h0 h' LO) (fun h'=>rd1 h' (.pointer (some ⟨L.p,10,none⟩))) K t=K (.slice L.A w.s.R.length L.c):=fun K t=>rI (fun h' S=>by rw[hLO]at S;rw[j3 S.blk];rfl) h S1
 have rN:∀K t,j8 (fun h'=>St h0 h' LO) (fun h'=>i7 (rdN h' q 0 14) fun cs=>some (.agg cs.toArray)) K t=K (.agg y.enc.toArray):=fun K t=>rI (fun h' S=>by rw[v8 (hmq _ S) (by simp[i0.enc])];rfl) h S1
 refine cS S1 (fun ρ' h'=>ρ' 0= .pointer (some ⟨L.p,0,none⟩)∧ρ' 9= .pointer (some ⟨q,0,none⟩)∧∃A c,St h0 h' (d9 q y.enc 136::wkA {L with A:=A,c:=c} D (.slice Au U.length cu) {w1 with s:={w1.s with R:=w.s.R++ [y.r]} }::d9 g x.enc 42::l)) ?_ ?_
 ·intro J hJ
  refine Wf e0 e9 r10 rN @i0.enc.eq_1 ?_
  (revert S;(try clear F);refine AL fun b h S F=> ?_)
  refine⟨by rw[hLO];exact S.tl,?_⟩
  refine Wa ?_
  refine tA1 (bytes:=144) (x:=y) i0.enc_len (by omega) i0.enc_plain rfl rfl S.p5.p1 (by omega) (by omega) ?_
  clear S F S1 r10 rN hmq
  intro va h S
  obtain⟨A,c,rfl⟩:=S.sl
  refine Wb e0 ?_
  refine tS S.p1 rfl rfl (l_a rfl) ?_
  clear S
  intro h S
  rw[t8]at S
  replace S:=S.nm
  refine hJ _ _ ?_
  refine Wc e0 e9 ?_
  refine⟨A,c,St.p1 (St.wk.2 ⟨sd,vs++ [y],by rw[L7,hv];rfl,?_⟩)⟩
  have e:(vs++ [y]).length=(w.s.R++ [y.r]).length:=by simp[hvl]
  have S:=S.perm (b2f _ _ _ _ _ _ _ _ _ (vs.map j2) l)
  rw[e]at S
  rw[L7]
  exact S
 clear S S1 r10 rN hmq hLO e0 e9
 rintro ρ' h ⟨e0,e9,A,c,S⟩
 obtain⟨L',hL',w2,hw2,S⟩:∃L':Loc,(L'={L with A:=A,c:=c})∧∃w2:Wk,w2={w1 with s:={w1.s with R:=w.s.R++ [y.r]} }∧St h0 h (d9 q y.enc 136::wkA L' D (.slice Au U.length cu) w2::d9 g x.enc 42::l):=⟨_,rfl,_,rfl,S⟩
 have hp:L.p=L'.p:=by rw[hL']
 have hT2:w2.s.T=w1.s.T:=by rw[hw2]
 have hn2:w2.s.now=w.s.now:=by rw[hw2];exact hn1
 have hw32:w3={w2 with s:={w2.s with T:=setT w2.s.T (w.s.R.length+1) (w.s.now+14)} }:=by rw[hw3,hw2]
 rw[hp]at e0
 obtain⟨sd,M,Sc,_⟩:=S.p1.wkCell
 have F2:=Sc.fx
 ((try clear F);have F:=S.fx)
 refine Wa ?_
 refine dE ?_
 refine Wh e0 e9 F F2 @t8.eq_1 @i0.enc.eq_1 hn2 ?_
 clear F F2 Sc
 obtain⟨M,St2,back⟩:=S.p1.wkTim
 refine cI (b4t y.r.num (w.s.now+14) St2 (by rw[hT2];omega) (by rw[hT2];exact htg)) ?_
 clear S St2
 intro v h St2
 have S:=back _ _ St2
 clear back St2
 rw[hynum,←hw32]at S
 have S:St h0 h (wkA L' D (.slice Au U.length cu) w3::d9 q y.enc 136::d9 g x.enc 42::l):=S
 have F:=m8 (off:=0) S.p1
 simp only[i0.enc,l_o,hynum]at F
 refine Wd e0 e9 F ?_
 clear F
 refine cI (b0E 1 _ 0 S W3 (by omega)) ?_
 clear S
 intro v h S
 have F:=m8 (off:=0) S.p1
 simp only[i0.enc,l_o,hynum]at F
 refine Wc e9 F ?_
 rw[hd]at hK
 refine hK _ _ ⟨rfl,A,c,?_⟩
 rw[←hL']
 exact S.d1.d1
end
end
end Go.Proofs.YtjagmebglhbdkaaGreat.MX
