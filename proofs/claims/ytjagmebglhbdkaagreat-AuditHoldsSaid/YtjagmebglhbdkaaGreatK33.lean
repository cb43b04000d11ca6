import Derived.Test.YtjagmebglhbdkaaGreatK32
namespace Go.Proofs.YtjagmebglhbdkaaGreat.MX
open Go Go.Proofs
set_option linter.unusedSimpArgs false
set_option linter.unusedVariables false
section
set_option maxHeartbeats 8000000
theorem b7i{x:Led}{a b sum e:Int}(h:a1u x a b sum= .error e):e≠0:=by
 unfold a1u at h
 split at h
 ·cases h;decide
 ·split at h
  ·cases h
  ·cases h;decide
section
variable{h0 h:c9}{l:List HP}{L:Loc}{D:Cfg}{u:Value}{w:Wk}{U:List Unt}{m b i:Nat}
theorem a6B(a c sum:Int)(hab:a=0∧c=1∨a=1∧c=2∨a=1∧c=3∨a=1∧c=4)(S:St h0 h (wkA L D u w::l)):d8 Tryz.prog 204 [.pointer (some ⟨L.p,0,none⟩),.int .i64 a,.int .i64 c,.int .i64 sum] h fun v h'=>a1c h0 L D u l (Q5 w a c sum) v h':=by
 obtain⟨sd,M,Sc,back⟩:=S.wkCell
 clear S
 have F:=Sc.fx
 refine EN i204.eq_1 fun K hK=> ?_
 refine Wc F @t8.eq_1 ?_
 rw[show [Value.int .i64 w.s.led.a,.int .i64 w.s.led.b,.int .i64 w.s.led.c,.int .i64 w.s.led.d,.int .i64 w.s.led.e]=w.s.led.enc from rfl]
 refine cI (c1u w.s.led a c sum hab _) ?_
 rintro _ h ⟨rfl,f1⟩
 have S:=Sc.frame f1
 clear Sc f1 F
 have hw:Q5 w a c sum=(a1u w.s.led a c sum).map w.led:=rfl
 rw[hw]at hK
 unfold b2j
 cases hp:a1u w.s.led a c sum with
 |error e=>
  have he:=b7i hp
  rw[hp]at hK
  refine Wc @Led.enc.eq_1 @Led.zero.eq_1 ?_
  (revert S;(try clear F);refine AL fun g h S F=> ?_)
  refine Wa ?_
  refine tS S rfl rfl (l_a rfl) ?_
  clear S F
  intro h S
  refine Wa ?_
  exact hK _ _ ⟨he,rfl,by
   have S2:=back _ w.s rfl rfl rfl rfl rfl S.tl
   exact S2.tl⟩
 |ok x=>
  rw[hp]at hK
  refine Wb @Led.enc.eq_1 ?_
  (revert S;(try clear F);refine AL fun g h S F=> ?_)
  refine Wa ?_
  refine tS S rfl rfl (l_a rfl) ?_
  clear S F
  intro h S
  replace S:=S.nm
  ((try clear F);have F:=S.fx)
  refine Wb F ?_
  refine tS S.p1 rfl rfl (l_a rfl) ?_
  clear S F
  intro h S
  rw[t8]at S
  replace S:=S.nm
  refine Wa ?_
  have S2:=back _ {w.s with led:=x} rfl rfl rfl rfl rfl S.d1
  exact hK _ _ ⟨rfl,S2⟩
theorem a8S(sum:Int)(S:St h0 h (wkA L D u w::l))(hA:L.A=some ⟨b,0,none⟩)(hi:i<w.s.R.length):d8 Tryz.prog 211 [.pointer (some ⟨L.p,0,none⟩),.pointer (some ⟨b,i*14,none⟩),.int .i64 sum] h fun v h'=>a1c h0 L D u l (X0 w i sum) v h':=by
 obtain⟨x,hx,hrd,_,_,_⟩:=S.wkRet hA hi
 have q:=hrd 12 (by omega)
 simp only[i0.enc,l_o,l_p,hx]at q
 refine EN i211.eq_1 fun K hK=> ?_
 refine Wb q ?_
 refine Y6 (r':={w.R i with credd:=w64 ((w.R i).credd+sum)}) S hA hi (j:=12) (by omega) rfl rfl rfl (fun x hx=>by rw[i0.enc,i0.enc,hx];rfl) ?_
 clear S hrd q
 intro h S
 refine Wa ?_
 refine cI (a6B 1 3 sum (by omega) S) ?_
 clear S
 intro v h hv
 have hd:X0 w i sum=Q5 (w.put i {w.R i with credd:=w64 ((w.R i).credd+sum)}) 1 3 sum:=rfl
 rw[hd]at hK
 refine Wa ?_
 exact hK _ _ hv
theorem b9W(sum:Int)(S:St h0 h (wkA L D u w::l))(W:w.wf U m)(hm:m<500000)(hA:L.A=some ⟨b,0,none⟩)(hi:i<w.s.R.length):d8 Tryz.prog 205 [.pointer (some ⟨L.p,0,none⟩),.pointer (some ⟨b,i*14,none⟩),.int .i64 sum] h fun v h'=>a1c h0 L D u l (R9 w i sum) v h':=by
 have hd:R9 w i sum=if sum=0 then .ok w else if(w.R i).cred=true then X0 w i sum else .ok (I4 w 2 (w.R i).num sum):=rfl
 obtain⟨x,hx,hrd,_,_,_⟩:=S.wkRet hA hi
 have q5:=hrd 5 (by omega)
 have q0:=hrd 0 (by omega)
 simp only[i0.enc,l_o,l_p,hx,H8]at q5 q0
 by_cases h1:sum=0
 ·rw[if_pos h1]at hd
  rw[hd]
  refine EN i205.eq_1 fun K hK=> ?_
  refine Wa ?_
  exact hK _ _ ⟨rfl,S⟩
 rw[if_neg h1]at hd
 cases hc:(w.R i).cred with
 |true=>
  rw[if_pos hc]at hd
  rw[hd]
  rw[hc]at q5
  refine EN i205.eq_1 fun K hK=> ?_
  refine Wb q5 ?_
  refine cI (a8S sum S hA hi) ?_
  intro v h hv
  refine Wa ?_
  exact hK _ _ hv
 |false=>
  rw[if_neg (by rw[hc];decide)]at hd
  rw[hd]
  rw[hc]at q5
  refine EN i205.eq_1 fun K hK=> ?_
  refine Wc q5 q0 ?_
  refine cI (b0E 2 _ sum S W hm) ?_
  clear S q5 q0 hrd
  intro v h S
  refine Wa ?_
  exact hK _ _ ⟨rfl,S⟩
theorem a1i(S:St h0 h (wkA L D u w::l))(W:w.wf U m)(hm:m<500000)(hA:L.A=some ⟨b,0,none⟩)(hi:i<w.s.R.length):d8 Tryz.prog 157 [.pointer (some ⟨L.p,0,none⟩),.pointer (some ⟨b,i*14,none⟩)] h fun v h'=>v= .int .i64 0∧St h0 h' (wkA L D u (y8 w i)::l):=by
 have hol:=W.ol
 have hd:y8 w i=if(w.R i).state=5∧l8 (w.R i).num w.s.O=0 then w.put i {w.R i with state:=6}else w:=rfl
 obtain⟨x,hx,hrd,_,_,_⟩:=S.wkRet hA hi
 have q6:=hrd 6 (by omega)
 have q0:=hrd 0 (by omega)
 simp only[i0.enc,l_o,l_p,hx,H8]at q6 q0
 by_cases h1:(w.R i).state=5
 case neg=>
  rw[if_neg (fun h=>h1 h.1)]at hd
  rw[hd]
  refine EN i157.eq_1 fun K hK=>Wa ?_
  refine dE ?_
  refine Wb q6 ?_
  exact hK _ _ ⟨rfl,S⟩
 obtain⟨sd,M,Sc,_⟩:=S.wkCell
 have F:=Sc.fx
 obtain⟨M',So,_⟩:=S.wkObx
 refine EN i157.eq_1 fun K hK=>Wa ?_
 refine dE ?_
 refine We q6 q0 F @t8.eq_1 ?_
 refine cI (a8J _ So (by omega)) ?_
 clear So Sc F q6 q0 hrd
 rintro _ h ⟨rfl,f1⟩
 have S:=S.frame f1
 clear f1
 generalize hwt:l8 (w.R i).num w.s.O=wt at*
 by_cases h2:(0:Int)<(wt:Int)
 ·rw[if_neg (fun h=>by omega)]at hd
  rw[hd]at hK
  refine Wa ?_
  exact hK _ _ ⟨rfl,S⟩
 rw[if_pos ⟨h1,by omega⟩]at hd
 rw[hd]at hK
 obtain⟨x,hx,hrd,_,_,_⟩:=S.wkRet hA hi
 have q6:=hrd 6 (by omega)
 simp only[i0.enc,l_o,l_p,hx,h1]at q6
 refine Wb q6 ?_
 refine cI (a6r 5 6 _) ?_
 rintro _ _ ⟨rfl,rfl⟩
 rw[show a9q 5 6= .tuple #[.int .i64 6,.int .i64 0]from rfl]
 refine Wa ?_
 refine Y6 (r':={w.R i with state:=6}) S hA hi (j:=6) (by omega) rfl rfl rfl (fun x hx=>by rw[i0.enc,i0.enc,hx];rfl) ?_
 clear S hrd q6
 intro h S
 refine Wa ?_
 exact hK _ _ ⟨rfl,S⟩
def resS(h0:c9)(L:Loc)(D:Cfg)(u:Value)(l:List HP)(w:Wk)(num:Int)(x:Except Int Wk)(v:Value)(h':c9):Prop:=match x with
 | .error e=>e≠0∧v= .tuple #[.pointer none,.int .i64 e]∧St h0 h' l
 | .ok w'=>∃(i b:Nat),num=(i:Int)+1∧(num-1).toNat=i∧i<w.s.R.length∧L.A=some ⟨b,0,none⟩∧v= .tuple #[.pointer (some ⟨b,i*14,none⟩),.int .i64 0]∧St h0 h' (wkA L D u w'::l)
theorem b0H(num by_:Int)(S:St h0 h (wkA L D u w::l))(W:w.wf U m):d8 Tryz.prog 144 [.pointer (some ⟨L.p,0,none⟩),.int .i64 num,.int .i64 by_] h fun v h'=>resS h0 L D u l w num (H3 w num by_) v h':=by
 refine EN i144.eq_1 fun K hK=>Wa ?_
 refine cI (b1Y num S W) ?_
 rintro _ _ ⟨rfl,⟨hn,rfl⟩|⟨i,b,hnum,hni,hi,hat,hA,rfl⟩⟩
 ·have hd:H3 w num by_= .error 7:=by rw[H3,hn]
  rw[hd]at hK
  refine Wa ?_
  exact hK _ _ ⟨by decide,rfl,S.tl⟩
 obtain⟨x,hx,hrd,_,_,_⟩:=S.wkRet hA hi
 have q6:=hrd 6 (by omega)
 simp only[i0.enc,l_o,l_p,hx]at q6
 refine Wb q6 ?_
 refine cI (a6r _ by_ _) ?_
 rintro _ _ ⟨rfl,rfl⟩
 unfold a9q
 cases hnx:E4 (w.R i).state by_ with
 |none=>
  have hd:H3 w num by_= .error 8:=by rw[H3,hat];simp only[hnx]
  rw[hd]at hK
  refine Wa ?_
  exact hK _ _ ⟨by decide,rfl,S.tl⟩
 |some st=>
  have hd:H3 w num by_= .ok (w.put i {w.R i with state:=st}):=by rw[H3,hat];simp only[hnx,hni]
  rw[hd]at hK
  refine Wa ?_
  refine Y6 (r':={w.R i with state:=st}) S hA hi (j:=6) (by omega) rfl rfl rfl (fun x hx=>by rw[i0.enc,i0.enc,hx];rfl) ?_
  clear S hrd q6
  intro h S
  refine Wa ?_
  exact hK _ _ ⟨i,b,hnum,hni,hi,hA,rfl,S⟩
theorem a5l(num by_:Int)(S:St h0 h (wkA L D u w::l))(W:w.wf U m)(hm:m<500000)(hU:U.length≤200):d8 Tryz.prog 90 [.pointer (some ⟨L.p,0,none⟩),.int .i64 num,.int .i64 by_] h fun v h'=>a1c h0 L D u l (M1 w num by_) v h':=by
 refine EN i90.eq_1 fun K hK=>Wa ?_
 refine cI (b1Y num S W) ?_
 rintro _ _ ⟨rfl,⟨hn,rfl⟩|⟨i,b,hnum,hni,hi,hat,hA,rfl⟩⟩
 ·have hd:M1 w num by_= .error 7:=by rw[M1,hn]
  rw[hd]at hK
  refine Wa ?_
  exact hK _ _ ⟨by decide,rfl,S.tl⟩
 obtain⟨x,hx,hrd,_,_,_⟩:=S.wkRet hA hi
 have q6:=hrd 6 (by omega)
 simp only[i0.enc,l_o,l_p,hx]at q6
 refine Wb q6 ?_
 refine cI (a6r _ by_ _) ?_
 rintro _ _ ⟨rfl,rfl⟩
 unfold a9q
 cases hnx:E4 (w.R i).state by_ with
 |none=>
  have hd:M1 w num by_= .error 8:=by rw[M1,hat];simp only[hnx]
  rw[hd]at hK
  refine Wa ?_
  exact hK _ _ ⟨by decide,rfl,S.tl⟩
 |some st=>
  obtain⟨w1,hw1⟩:∃w1,w1=w.put i {w.R i with state:=st}:=⟨_,rfl⟩
  obtain⟨w2,hw2⟩:∃w2,w2=j5 w1 i:=⟨_,rfl⟩
  have hd:M1 w num by_= .ok {w2 with s:={w2.s with T:=without w2.s.T num,O:=dropL w2.s.O num} }:=by rw[M1,hat];simp only[hnx,hni];rw[hw2,hw1]
  rw[hd]at hK
  have W1:w1.wf U m:=by rw[hw1];exact W.putR hi rfl rfl
  have hi1:i<w1.s.R.length:=by rw[hw1,o7];exact hi
  have W2:w2.wf U m:=by rw[hw2];exact W1.release hi1
  have htl:=W2.tl
  have hol:=W2.ol
  refine Wa ?_
  refine Y6 (r':={w.R i with state:=st}) S hA hi (j:=6) (by omega) rfl rfl rfl (fun x hx=>by rw[i0.enc,i0.enc,hx];rfl) ?_
  clear S hrd q6
  intro h S
  rw[←hw1]at S
  refine Wa ?_
  refine cI (a4b S W1 hU hA hi1) ?_
  clear S
  intro v h S
  rw[←hw2]at S
  obtain⟨sd,M,Sc,_⟩:=S.wkCell
  have F:=Sc.fx
  refine Wc F @t8.eq_1 ?_
  clear F Sc
  obtain⟨M,St1,back⟩:=S.wkTim
  refine cI (a6O num St1 (by omega) W2.tg) ?_
  clear S St1
  rintro _ h ⟨_,St1⟩
  have S:=back _ _ St1
  clear back St1
  obtain⟨sd,M,Sc,_⟩:=S.wkCell
  have F:=Sc.fx
  refine Wc F @t8.eq_1 ?_
  clear F Sc
  obtain⟨M,So,back⟩:=S.wkObx
  refine cI (b7L num 1 So (by show w2.s.O.length<_;omega)) ?_
  clear S
  intro v h So
  have S:=back _ _ _ So
  refine Wa ?_
  exact hK _ _ ⟨rfl,S⟩
def a2H(Ks:List KU)(us:List Int)(to:Int):List KU:=us.foldl (fun Ks u=>E3 Ks u to) Ks
theorem b6U(us:List Int)(to:Int):∀w:Wk,t7 w us to={w with s:={w.s with K:=a2H w.s.K us to} }:=by
 induction us with
 |nil=>intro w;rfl
 |cons u us ih=>intro w;exact ih (w.mv u to)
theorem b1W(Ks:List KU)(us:List Int)(u to:Int):a2H Ks (us++ [u]) to=E3 (a2H Ks us to) u to:=by
 unfold a2H
 rw[List.foldl_append]
 rfl
theorem b3E(us:List Int)(to:Int):∀Ks:List KU,(a2H Ks us to).length=Ks.length:=by
 induction us with
 |nil=>intro Ks;rfl
 |cons u us ih=>intro Ks;exact(ih _).trans (P4 _ _ _)
theorem b5h(to:Int)(S:St h0 h (wkA L D u w::l))(W:w.wf U m)(hU:U.length≤200)(hA:L.A=some ⟨b,0,none⟩)(hi:i<w.s.R.length):d8 Tryz.prog 145 [.pointer (some ⟨L.p,0,none⟩),.pointer (some ⟨b,i*14,none⟩),.int .i64 to] h fun v h'=>St h0 h' (wkA L D u (t7 w (w.R i).us to)::l):=by
 have hlen:=(W.len _ (C5 hi)).1
 have hkl:=W.kl
 rw[b6U]
 obtain⟨sd,vs,hv,S⟩:=St.wk.1 S
 have hil:i<vs.length:=by rw[←hv,l_z]at hi;exact hi
 have e:vs[i].r=w.R i:=by
  unfold Wk.R
  rw[←hv,l_s,a0H,l_r hil]
  rfl
 have q8:rd1 h (.pointer (some ⟨b,i*14+8,none⟩))=some (.slice vs[i].A (w.R i).us.length vs[i].c):=by
  have S4:=S.p4
  rw[hA]at S4
  have:=u2 i0.enc_len S4 (i:=i) (j:=8) hil (by omega)
  simpa only[i0.enc,l_o,l_p,e]using this
 have harr:∀{h':c9}{M:List HP},St h0 h' (M++(vs.map j2++l))→Arr i6 1 h' vs[i].A (w.R i).us:=fun {h' M} S=>by
  have:=(K4 S (x:=vs[i]) (a2l _ (Y0 _ (a0I (l_v hil))))).1
  rwa[e]at this
 generalize vs[i].A=A at*
 generalize vs[i].c=c at*
 generalize hus:(w.R i).us=us at*
 refine EN i145.eq_1 fun K hK=> ?_
 refine Wb q8 ?_
 refine lI (fun ρ h'=>ρ 0= .pointer (some ⟨L.p,0,none⟩)∧ρ 2= .int .i64 to∧ρ 11= .slice A us.length c∧ρ 12= .int .i64 us.length∧∃j:Nat,ρ 13= .int .i64 j∧j≤us.length∧
  St h0 h' (t6 L.k (a2H w.s.K (us.take j) to)::d9 L.p (t8 D u L.k L.t L.o (.slice L.A w.s.R.length L.c) sd w.s) 113::H2 L.t w.s.T::D8 L.o w.s.key w.s.O::
  i4 i0.enc 14 136 (.slice L.A w.s.R.length L.c) vs::i4 Msg.enc 6 128 sd w.sd::(vs.map j2++l))) (fun ρ _=>us.length-(iv (ρ 13)).toNat) ?_ ?_
 ·refine Wa ?_
  exact⟨0,rfl,by omega,S.p1⟩
 clear S q8
 rintro ρ h J hJ ⟨e0,e2,e11,e12,j,e13,hj,S⟩
 refine Wc e12 e13 ?_
 refine cD (fun hlt=> ?_) (fun hlt=> ?_)
 ·have hjl:j<us.length:=by omega
  obtain⟨b1,o1,hA1,q1⟩:=(harr (M:=[_,_,_,_,_,_]) S).at hjl
  have q1:=rP0 q1 (by omega)
  simp only[i6,l_o,m9]at q1
  have hsn:a2H w.s.K (us.take (j+1)) to=E3 (a2H w.s.K (us.take j) to) us[j] to:=by rw[l_t hjl,b1W]
  have hkl2:=b3E (us.take j) to w.s.K
  generalize us[j]=v at*
  ((try clear F);have F:=S.fx)
  refine Wi e0 e2 e11 e13 F @t8.eq_1 hA1 (Pc q1 @m9) ?_
  refine cI (a0L v to S (by omega)) ?_
  clear S F q1
  rintro _ h ⟨rfl,S⟩
  rw[←hsn]at S
  refine Wb e13 ?_
  refine hJ _ _ ?_ ?_
  ·refine Wf e0 e2 e11 e12 hA1 ?_
   exact⟨j+1,rfl,by omega,S⟩
  ·refine Wb e13 ?_
   omega
 obtain rfl:j=us.length:=by omega
 rw[C9]at S
 refine Wa ?_
 exact hK _ _ (St.wk.2 ⟨sd,vs,hv,S.p1⟩)
theorem c0D(num:Int)(S:St h0 h (wkA L D u w::l))(W:w.wf U m)(hU:U.length≤200):d8 Tryz.prog 91 [.pointer (some ⟨L.p,0,none⟩),.int .i64 num] h fun v h'=>a1c h0 L D u l (a2L w num) v h':=by
 refine EN i91.eq_1 fun K hK=>Wa ?_
 refine cI (b0H num 2 S W) ?_
 clear S
 intro v h hv
 have hd:a2L w num=(H3 w num 2).bind fun w1=>let w2:=t7 w1 (w1.R (num-1).toNat).us 1;.ok (a2Q w2 num (w2.s.now+30)):=rfl
 rw[hd]at hK
 cases hs:H3 w num 2 with
 |error e=>
  rw[hs]at hv hK
  obtain⟨he,rfl,S⟩:=hv
  refine Wa ?_
  exact hK _ _ ⟨he,rfl,S⟩
 |ok w1=>
  rw[hs]at hv hK
  obtain⟨i,b,hnum,hni,hi,hA,rfl,S⟩:=hv
  obtain⟨W1,l1,_⟩:=a3q hs W
  have hi1:i<w1.s.R.length:=by omega
  refine Wa ?_
  refine cI (b5h 1 S W1 hU hA hi1) ?_
  clear S
  intro v h S
  rw[←hni]at S
  obtain⟨W2,r2⟩:=Y2 (w1.R (num-1).toNat).us 1 W1
  have hK':∀(v:Value) (h':c9),a1c h0 L D u l (.ok (a2Q (t7 w1 (w1.R (num-1).toNat).us 1) num ((t7 w1 (w1.R (num-1).toNat).us 1).s.now+30))) v h'→K v h':=hK
  clear hK
  generalize t7 w1 (w1.R (num-1).toNat).us 1=w2 at*
  have htl:=W2.tl
  have hnow:=W2.now
  obtain⟨sd,M,Sc,_⟩:=S.wkCell
  have F:=Sc.fx
  refine Wa ?_
  refine dE ?_
  refine Wc F @t8.eq_1 ?_
  clear F Sc
  obtain⟨M,S1,back⟩:=S.wkTim
  refine cI (b4t num (w2.s.now+30) S1 (by omega) W2.tg) ?_
  clear S
  intro v h S1
  refine Wa ?_
  exact hK' _ _ ⟨rfl,back _ _ S1⟩
theorem b2C(num:Int)(S:St h0 h (wkA L D u w::l))(W:w.wf U m)(hU:U.length≤200):d8 Tryz.prog 92 [.pointer (some ⟨L.p,0,none⟩),.int .i64 num] h fun v h'=>a1c h0 L D u l (O4 w num) v h':=by
 refine EN i92.eq_1 fun K hK=>Wa ?_
 refine cI (b0H num 3 S W) ?_
 clear S
 intro v h hv
 have hd:O4 w num=(H3 w num 3).bind fun w1=>let w2:=t7 w1 (w1.R (num-1).toNat).us 2;.ok (S7 w2 num):=rfl
 rw[hd]at hK
 cases hs:H3 w num 3 with
 |error e=>
  rw[hs]at hv hK
  obtain⟨he,rfl,S⟩:=hv
  refine Wa ?_
  exact hK _ _ ⟨he,rfl,S⟩
 |ok w1=>
  rw[hs]at hv hK
  obtain⟨i,b,hnum,hni,hi,hA,rfl,S⟩:=hv
  obtain⟨W1,l1,_⟩:=a3q hs W
  have hi1:i<w1.s.R.length:=by omega
  refine Wa ?_
  refine cI (b5h 2 S W1 hU hA hi1) ?_
  clear S
  intro v h S
  rw[←hni]at S
  obtain⟨W2,r2⟩:=Y2 (w1.R (num-1).toNat).us 2 W1
  have hK':∀(v:Value) (h':c9),a1c h0 L D u l (.ok (S7 (t7 w1 (w1.R (num-1).toNat).us 2) num)) v h'→K v h':=hK
  clear hK
  generalize t7 w1 (w1.R (num-1).toNat).us 2=w2 at*
  have htl:=W2.tl
  obtain⟨sd,M,Sc,_⟩:=S.wkCell
  have F:=Sc.fx
  refine Wc F @t8.eq_1 ?_
  clear F Sc
  obtain⟨M,S1,back⟩:=S.wkTim
  refine cI (a6O num S1 (by omega) W2.tg) ?_
  clear S
  rintro v h ⟨_,S1⟩
  refine Wa ?_
  exact hK' _ _ ⟨rfl,back _ _ S1⟩
end
end
section
set_option maxHeartbeats 8000000
section
variable{h0 h:c9}{l:List HP}{L:Loc}{D:Cfg}{u:Value}{w:Wk}{U:List Unt}{m b i:Nat}
theorem a9H(by_:Int)(hc:∀h',St h0 h' l→D.rd h')(hD:Stc D U)(S:St h0 h (wkA L D u w::l))(W:w.wf U m)(hm:m<400000)(hA:L.A=some ⟨b,0,none⟩)(hi:i<w.s.R.length):
  d8 Tryz.prog 150 [.pointer (some ⟨L.p,0,none⟩),.pointer (some ⟨b,i*14,none⟩),.int .i64 by_] h fun v h'=>a1c h0 L D u l (G5 D.ss w i by_) v h':=by
 have hss:=hD.cfg.len.2.1
 obtain⟨x,hx,hrd,_,_,_⟩:=S.wkRet hA hi
 have q6:=hrd 6 (by omega)
 simp only[i0.enc,l_o,l_p,hx]at q6
 refine EN i150.eq_1 fun K hK=> ?_
 refine Wb q6 ?_
 refine cI (a6r _ by_ _) ?_
 rintro _ _ ⟨rfl,rfl⟩
 unfold a9q
 cases hnx:E4 (w.R i).state by_ with
 |none=>
  have hd:G5 D.ss w i by_= .error 8:=by rw[G5,hnx]
  rw[hd]at hK
  refine Wa ?_
  exact hK _ _ ⟨by decide,rfl,S.tl⟩
 |some st=>
  have hd:G5 D.ss w i by_=(Q5 (w.put i {w.R i with state:=st}) 0 1 (w.R i).worth).bind fun w1=>
   let price:=(u3 D.ss (w1.R i).want).getD 0
   (if 0≤(w1.R i).res then(if(w1.R i).worth<price then R9 (j5 w1 i) i (w1.R i).worth else R9 (I4 w1 3 (w1.R i).num (w1.R i).res) i (w64 ((w1.R i).worth-price)))else R9 w1 i (w1.R i).worth).map fun w2=>y8 w2 i:=by rw[G5,hnx]
  rw[hd]at hK
  clear hd
  have W1:(w.put i {w.R i with state:=st}).wf U m:=W.putR hi rfl rfl
  have hR1:(w.put i {w.R i with state:=st}).R i={w.R i with state:=st}:=E0 hi
  have hi1:i<(w.put i {w.R i with state:=st}).s.R.length:=by rw[o7];exact hi
  refine Wa ?_
  refine Y6 (r':={w.R i with state:=st}) S hA hi (j:=6) (by omega) rfl rfl rfl (fun x hx=>by rw[i0.enc,i0.enc,hx];rfl) ?_
  clear S hrd q6 hx
  intro h S
  generalize w.put i {w.R i with state:=st}=w0 at*
  obtain⟨x,hx,hrd,_,_,_⟩:=S.wkRet hA hi1
  have q10:=hrd 10 (by omega)
  simp only[i0.enc,l_o,l_p,hx,hR1]at q10
  refine Wb q10 ?_
  refine cI (a6B 0 1 (w.R i).worth (by omega) S) ?_
  clear S hrd q10 hx
  intro v h hv
  cases hp:Q5 w0 0 1 (w.R i).worth with
  |error e=>
   rw[hp]at hv hK
   obtain⟨he,rfl,S⟩:=hv
   refine Wa ?_
   exact hK _ _ ⟨he,rfl,S⟩
  |ok w1=>
   rw[hp]at hv hK
   obtain⟨rfl,S⟩:=hv
   obtain⟨W2,r2⟩:=a4N hp W1
   have hi2:i<w1.s.R.length:=by rw[r2];exact hi1
   have hK':∀(v:Value) (h':c9),a1c h0 L D u l ((if 0≤(w1.R i).res then(if(w1.R i).worth<(u3 D.ss (w1.R i).want).getD 0 then R9 (j5 w1 i) i (w1.R i).worth else R9 (I4 w1 3 (w1.R i).num (w1.R i).res) i (w64 ((w1.R i).worth-(u3 D.ss (w1.R i).want).getD 0)))else R9 w1 i (w1.R i).worth).map fun w2=>y8 w2 i) v h'→K v h':=hK
   clear hK hp hR1 W1 r2
   obtain⟨x,hx,hrd,_,_,_⟩:=S.wkRet hA hi2
   have q10:=hrd 10 (by omega)
   have q4:=hrd 4 (by omega)
   simp only[i0.enc,l_o,l_p,hx]at q10 q4
   refine Wc q10 q4 ?_
   refine cC (fun ρ' h'=>ρ' 0= .pointer (some ⟨L.p,0,none⟩)∧ρ' 1= .pointer (some ⟨b,i*14,none⟩)∧∃(w':Wk) (rest:Int),ρ' 10= .int .i64 rest∧w'.wf U (m+1)∧w'.s.R.length=w1.s.R.length∧St h0 h' (wkA L D u w'::l)∧
    (if 0≤(w1.R i).res then(if(w1.R i).worth<(u3 D.ss (w1.R i).want).getD 0 then R9 (j5 w1 i) i (w1.R i).worth else R9 (I4 w1 3 (w1.R i).num (w1.R i).res) i (w64 ((w1.R i).worth-(u3 D.ss (w1.R i).want).getD 0)))else R9 w1 i (w1.R i).worth)=R9 w' i rest) ?_ ?_ ?_
   ·intro hb J hJ
    have hres:=s7 hb
    obtain⟨sd,M,Sc,_⟩:=S.wkCell
    have F:=Sc.fx
    have q3:=hrd 3 (by omega)
    simp only[i0.enc,l_o,l_p,hx]at q3
    refine Wa ?_
    refine dE ?_
    refine Wd F @t8.eq_1 q3 ?_
    rw[show [Value.slice D.A1 D.os.length D.c1,.slice D.A2 D.ss.length D.c2,.slice D.A3 D.ps.length D.c3]=D.enc from rfl]
    refine cI (a5d D _ (hc _ S.tl).ss (by omega)) ?_
    clear Sc F hrd q10 q4 q3
    rintro _ h ⟨rfl,f1⟩
    have S:=S.frame f1
    clear f1
    obtain⟨x,hx,hrd,_,_,_⟩:=S.wkRet hA hi2
    have q10:=hrd 10 (by omega)
    have q0:=hrd 0 (by omega)
    have q4:=hrd 4 (by omega)
    simp only[i0.enc,l_o,l_p,hx,H8]at q10 q0 q4
    obtain⟨price,hpr⟩:∃price,price=(u3 D.ss (w1.R i).want).getD 0:=⟨_,rfl⟩
    rw[←hpr]at hJ⊢
    by_cases hlt:(w1.R i).worth<price
    ·refine Wb q10 ?_
     refine cI (a4b S W2 hD.ul hA hi2) ?_
     clear S hrd q10 q0 q4
     intro v h S
     refine hJ _ _ ?_
     refine Wa ?_
     exact⟨_,_,rfl,(W2.release hi2).up (by omega),D4 _ _,S,by rw[if_pos hres,if_pos hlt]⟩
    ·refine Wb q10 ?_
     refine dE ?_
     refine Wc q0 q4 ?_
     refine cI (b0E 3 _ _ S W2 (by omega)) ?_
     clear S hrd q10 q0 q4
     intro v h S
     refine Wa ?_
     refine hJ _ _ ?_
     refine Wa ?_
     exact⟨_,_,rfl,W2.say _ _ _,rfl,S,by rw[if_pos hres,if_neg hlt]⟩
   ·intro hb J hJ
    have hres:=y7 hb
    refine Wa ?_
    refine hJ _ _ ?_
    refine Wa ?_
    exact⟨_,_,rfl,W2.up (by omega),rfl,S,by rw[if_neg hres]⟩
   clear S hrd q10 q4 hx
   rintro ρ' h ⟨e0,e1,w',rest,e10,W',l',S,heq⟩
   rw[heq]at hK'
   clear heq
   have hi':i<w'.s.R.length:=by omega
   refine Wd e0 e1 e10 ?_
   refine cI (b9W rest S W' (by omega) hA hi') ?_
   clear S
   intro v h hv
   cases hp:R9 w' i rest with
   |error e=>
    rw[hp]at hv hK'
    obtain⟨he,rfl,S⟩:=hv
    refine Wa ?_
    exact hK' _ _ ⟨he,rfl,S⟩
   |ok w3=>
    rw[hp]at hv hK'
    obtain⟨rfl,S⟩:=hv
    obtain⟨W3,l3⟩:=a5D hi' hp W'
    refine Wc e0 e1 ?_
    refine cI (a1i S W3 (by omega) hA (by omega)) ?_
    clear S
    rintro _ h ⟨rfl,S⟩
    refine Wa ?_
    exact hK' _ _ ⟨rfl,S⟩
end
end
section
set_option maxHeartbeats 8000000
theorem a8Z{α:Type}(f:α→List Value){xs:List α}{i:Nat}(hi:i<xs.length){y:α}(h:f y=f xs[i]):(xs.set i y).flatMap f=xs.flatMap f:=by
 rw[List.flatMap_def,List.flatMap_def,List.map_set]
 congr 1
 have:f y=(xs.map f)[i]'(by rw[l_z];exact hi):=by rw[Y9];exact h
 rw[this,List.set_getElem_self]
theorem W7(c k t o r s:HP)(rows l:List HP):(c::k::t::o::r::s::(rows++l)).Perm (r::(rows++(c::k::t::o::s::l))):=by
 refine(u6 [c,k,t,o] r (s::(rows++l))).trans (List.Perm.cons _ ?_)
 exact List.perm_append_comm_assoc [c,k,t,o,s] rows l
section
variable{h0 h:c9}{l:List HP}{L:Loc}{D:Cfg}{u:Value}{w:Wk}{U:List Unt}{m b i:Nat}
theorem c2q{Au:Option Addr}{cu:Nat}(hc:∀h',St h0 h' l→D.rd h')(hu:∀h',St h0 h' l→Arr Unt.enc 4 h' Au U)(hD:Stc D U)(S:St h0 h (wkA L D (.slice Au U.length cu) w::l))(W:w.wf U m)(hm:m<400000)(hA:L.A=some ⟨b,0,none⟩)(hi:i<w.s.R.length):
  d8 Tryz.prog 206 [.pointer (some ⟨L.p,0,none⟩),.pointer (some ⟨b,i*14,none⟩)] h fun v h'=>a1c h0 L D (.slice Au U.length cu) l (a7C D.ss U w i) v h':=by
 have hul:=hD.ul
 obtain⟨hlen,hglen⟩:=W.len _ (C5 hi)
 have hinU:=(W.rr _ (C5 hi)).2
 have hpos:∀v∈(w.R i).us,0≤v:=fun v hv=>by
  obtain⟨k,hk,rfl⟩:=R7 hv
  have:=(((W.rr _ (C5 hi)).1.2.2 k hk).1).1
  rwa[l7 hk]at this
 have hd:a7C D.ss U w i=G5 D.ss (u7 U w i (w.R i).us.length) i 5:=rfl
 rw[hd]
 obtain⟨sd,vs,hv,S⟩:=St.wk.1 S
 have hil:i<vs.length:=by rw[←hv,l_z]at hi;exact hi
 have e:vs[i].r=w.R i:=by
  unfold Wk.R
  rw[←hv,l_s,a0H,l_r hil]
  rfl
 have q8:rd1 h (.pointer (some ⟨b,i*14+8,none⟩))=some (.slice vs[i].A (w.R i).us.length vs[i].c):=by
  have S4:=S.p4
  rw[hA]at S4
  have:=u2 i0.enc_len S4 (i:=i) (j:=8) hil (by omega)
  simpa only[i0.enc,l_o,l_p,e]using this
 obtain⟨A0,hA0⟩:∃A0,A0=vs[i].A:=⟨_,rfl⟩
 obtain⟨c0,hc0⟩:∃c0,c0=vs[i].c:=⟨_,rfl⟩
 rw[←hA0,←hc0]at q8
 refine EN i206.eq_1 fun K hK=> ?_
 refine Wb q8 ?_
 refine lI (fun ρ h'=>ρ 0= .pointer (some ⟨L.p,0,none⟩)∧ρ 1= .pointer (some ⟨b,i*14,none⟩)∧ρ 10= .slice A0 (w.R i).us.length c0∧ρ 11= .int .i64 (w.R i).us.length∧∃(j:Nat) (ys:List i0) (hy:i<ys.length),ρ 12= .int .i64 j∧j≤(w.R i).us.length∧ys.map i0.r=(u7 U w i j).s.R∧ys[i].A=A0∧ys[i].c=c0∧
  St h0 h' (d9 L.p (t8 D (.slice Au U.length cu) L.k L.t L.o (.slice L.A w.s.R.length L.c) sd w.s) 113::t6 L.k (u7 U w i j).s.K::H2 L.t w.s.T::D8 L.o w.s.key w.s.O::
  i4 i0.enc 14 136 (.slice L.A w.s.R.length L.c) ys::i4 Msg.enc 6 128 sd w.sd::(ys.map j2++l))) (fun ρ _=>(w.R i).us.length-(iv (ρ 12)).toNat) ?_ ?_
 ·refine Wa ?_
  exact⟨0,vs,hil,rfl,by omega,hv,hA0.symm,hc0.symm,S⟩
 clear S q8
 rintro ρ h J hJ ⟨e0,e1,e10,e11,j,ys,hy,e12,hj,hyv,hyA,hyc,S⟩
 obtain⟨Wj,lj,uj⟩:=a4G hi W j
 have hij:i<(u7 U w i j).s.R.length:=by omega
 have ey:ys[i].r=(u7 U w i j).R i:=by
  unfold Wk.R
  rw[←hyv,l_s,a0H,l_r hy]
  rfl
 refine Wc e11 e12 ?_
 refine cD (fun hlt=> ?_) (fun hlt=> ?_)
 ·have hjl:j<(w.R i).us.length:=by omega
  have harr:=(K4 S (x:=ys[i]) (by simp only[l_e,l_y];exact .inr (.inr (.inr (.inr (.inr (.inr (.inl (a0I (l_v hy))))))))))
  rw[ey,uj,hyA]at harr
  obtain⟨b1,o1,hA1,q1⟩:=harr.1.at hjl
  have q1:=rP0 q1 (by omega)
  simp only[i6,l_o,m9]at q1
  rw[←l7]at q1
  obtain⟨n,hn⟩:=l_u (hpos _ (l_v hjl))
  rw[←l7]at hn
  have hnU:n<U.length:=by
   have:=hinU _ (l_v hjl)
   rw[←l7,hn]at this
   omega
  rw[hn]at q1
  have hkl:=Wj.kl
  obtain⟨w1,hw1⟩:∃w1,w1=u7 U w i j:=⟨_,rfl⟩
  rw[←hw1]at S Wj lj uj hij ey hyv hkl
  have hw2:u7 U w i (j+1)=(w1.mv n 6).put i {w1.R i with gs:=(w1.R i).gs.set j 4,worth:=w64 ((w1.R i).worth+(j9 U n).share)}:=by
   rw[hw1]
   show Wk.put _ _ _=_
   rw[show(u7 U w i j).R i=w1.R i by rw[hw1],uj,hn]
  have hgl:(w1.R i).gs.length=(w.R i).us.length:=by rw[(Wj.len _ (C5 hij)).2,uj]
  ((try clear F);have F:=S.fx)
  refine Wi e0 e10 e12 F @t8.eq_1 hA1 q1 @m9 ?_
  refine cI (a0L (n:Int) 6 S.p1 (by omega)) ?_
  clear F q1 harr S
  rintro _ h ⟨rfl,S⟩
  have S:St h0 h (d9 L.p (t8 D (.slice Au U.length cu) L.k L.t L.o (.slice L.A w.s.R.length L.c) sd w.s) 113::t6 L.k (E3 w1.s.K n 6)::H2 L.t w.s.T::D8 L.o w.s.key w.s.O::
   i4 i0.enc 14 136 (.slice L.A w.s.R.length L.c) ys::i4 Msg.enc 6 128 sd w.sd::(ys.map j2++l)):=S.p1
  have rdr:∀{h':c9}{zs:List i0}{M:List HP} (k:Nat) (_:k<14) (hz:i<zs.length),St h0 h' (i4 i0.enc 14 136 (.slice L.A w.s.R.length L.c) zs::M)→rd1 h' (.pointer (some ⟨b,i*14+k,none⟩))=zs[i].enc[k]? :=fun {h' zs M} k hk hz S=>by
   rw[hA]at S
   exact u2 i0.enc_len S hz hk
  have q9:=rdr 9 (by omega) hy S.p4
  simp only[i0.enc,l_o,l_p,ey]at q9
  have S:=S.perm (W7 _ _ _ _ _ _ _ _)
  have S:=a7W hy S
  have S:=St.star.1 S
  have hgne:0<ys[i].r.gs.length:=by rw[ey];omega
  obtain⟨bg,hbg⟩:=S.p1.ownAt hgne
  rw[hbg]at q9
  have Sg:=S.p1
  rw[hbg]at Sg
  clear S
  refine Wc e1 q9 ?_
  refine v7 zEl (i:=j) (x:=4) Sg (by rw[ey];omega) (by rw[m9];try rfl) rfl rfl rfl ?_
  clear Sg q9
  intro h S
  rw[ey]at S
  obtain⟨y,hyd⟩:∃y:i0,y={ys[i]with r:={w1.R i with gs:=(w1.R i).gs.set j 4} }:=⟨_,rfl⟩
  have hrow:j2 y=a2S (i4 i6 1 3 (.slice ys[i].A (w1.R i).us.length ys[i].c) (w1.R i).us) (i4 i6 1 3 (.slice (some ⟨bg,0,none⟩) (w1.R i).gs.length ys[i].d) ((w1.R i).gs.set j 4)):=by
   rw[hyd,j2]
   simp only[T3,hbg]
  have S3:=St.star.2 S.p1
  rw[←hrow]at S3
  have S:=b0D (F:=j2) (z:=y) hy S3
  have henc:y.enc=ys[i].enc:=by rw[hyd,i0.enc,i0.enc];simp only[T3,ey]
  have S:=S.ownTo (ys:=ys.set i y) (enc':=i0.enc) (by rw[a8Z _ hy henc]) (by rw[T3])
  have hys:i<(ys.set i y).length:=by rw[T3];exact hy
  have hyi:(ys.set i y)[i]=y:=List.getElem_set_self ..
  have q10:rd1 h (.pointer (some ⟨b,i*14+10,none⟩))=some (.int .i64 (w1.R i).worth):=by
   rw[rdr 10 (by omega) hys S,hyi,hyd]
   rfl
  obtain⟨b4,o4,hA4,q4⟩:=(hu _ (S.tl.dropL.tl.tl.tl.tl.tl)).at hnU
  have q43:=rP q4 3 (by omega)
  simp only[Unt.enc,l_o,l_p]at q43
  obtain⟨M,Sc⟩:=Z4 S (X:=d9 L.p (t8 D (.slice Au U.length cu) L.k L.t L.o (.slice L.A w.s.R.length L.c) sd w.s) 113) (by simp)
  have F:=Sc.fx
  have hat:j9 U (n:Int)=U[n]:=by rw[j9,K0,l_s,l_r hnU];rfl
  refine Wa ?_
  refine dE ?_
  refine Wh e0 e1 q10 F @t8.eq_1 hA4 q43 ?_
  clear F Sc q10 q4 q43
  obtain⟨y2,hy2⟩:∃y2:i0,y2={ys[i]with r:={w1.R i with gs:=(w1.R i).gs.set j 4,worth:=w64 ((w1.R i).worth+(j9 U n).share)} }:=⟨_,rfl⟩
  have hA':=hA
  rw[hA]at S
  refine G8 i0.enc_len (i:=i) (j:=10) (x:=y2) S hys rfl (by simp) rfl rfl (by rw[hyi,hy2,hyd,←hat];rfl) ?_
  clear S
  intro h S
  rw[←hA,List.set_set]at S
  have hr2:j2 y2=j2 y:=by rw[hy2,hyd,j2,j2]
  have hmap:(ys.set i y).map j2=(ys.set i y2).map j2:=by rw[List.map_set,List.map_set,hr2]
  rw[hmap]at S
  have S:=S.perm (W7 _ _ _ _ _ _ _ _).symm
  have hyi2:(ys.set i y2)[i]'(by rw[T3];exact hy)=y2:=List.getElem_set_self ..
  refine Wb e12 ?_
  refine hJ _ _ ?_ ?_
  ·refine Wf e0 e1 e10 e11 hA1 ?_
   refine⟨j+1,ys.set i y2,by rw[T3];exact hy,rfl,by omega,?_,by rw[hyi2,hy2];exact hyA.trans hA1,by rw[hyi2,hy2];exact hyc,?_⟩
   ·rw[hw2,List.map_set,hyv,hy2]
    rfl
   ·rw[hw2]
    exact S
  ·refine Wb e12 ?_
   omega
 obtain rfl:j=(w.R i).us.length:=by omega
 have hfin:u7 U w i (w.R i).us.length=⟨{w.s with K:=(u7 U w i (w.R i).us.length).s.K,R:=(u7 U w i (w.R i).us.length).s.R},w.sd⟩:=by
  have:∀j,u7 U w i j=⟨{w.s with K:=(u7 U w i j).s.K,R:=(u7 U w i j).s.R},w.sd⟩:=by
   intro j
   induction j with
   |zero=>rfl
   |succ j ih=>
    show Wk.put _ _ _=_
    rw[ih]
    rfl
  exact this _
 have S:St h0 h (wkA L D (.slice Au U.length cu) (u7 U w i (w.R i).us.length)::l):=by
  refine St.wk.2 ⟨sd,ys,hyv,?_⟩
  rw[lj]
  rw[hfin]
  exact S
 clear hJ hfin
 refine Wc e0 e1 ?_
 refine cI (a9H 5 hc hD S Wj hm hA hij) ?_
 clear S
 intro v h hv
 refine Wa ?_
 exact hK _ _ hv
end
end
section
set_option maxHeartbeats 8000000
section
variable{h0 h:c9}{l:List HP}{o:Nat}{n:Int}{O:List Msg}
theorem b5L(now:Int)(S:St h0 h (D8 o n O::l))(hl:O.length<1000000)(hnow: -4398046511104≤now∧now≤4398046511104)(ht:∀m∈O,0≤m.tries∧m.tries<1000000):
  d8 Tryz.prog 153 [.pointer (some ⟨o,0,none⟩),.int .i64 now] h fun v h'=>∃s1 s2,v= .tuple #[s1,s2]∧
   St h0 h' (i4 Msg.enc 6 128 s1 (A9 now O)::i4 Msg.enc 6 128 s2 (x5 now O)::D8 o n (y9 now O)::l):=by
 rw[D8,St.ex]at S
 obtain⟨s,S⟩:=S
 obtain⟨B,hp,hge,hk⟩:=S.hd
 obtain⟨C,C',rfl,⟨rfl,hc⟩,⟨rfl,hd⟩,hdis⟩:=hp
 have i:a0G h0.size h o s n O:=⟨hc,hge o (by simp),hd.rebase (fun b hm=>hge b (by simp[hm])),hdis o (by simp)⟩
 have hlt:=i.lt
 refine(b5M now i hl hnow ht).mono ?_
 rintro v h' ⟨s1,s2,s3,rfl,i',o1,o2,hf,h3,ab,ac,bc⟩
 have lt1:∀b∈i9 s1,h.size≤b:=fun b hb=>(o1.lt b hb).2
 have lt2:∀b∈i9 s2,h.size≤b:=fun b hb=>(o2.lt b hb).2
 refine⟨s1,s2,rfl,?_⟩
 refine(St.stars (ps:=[i4 Msg.enc 6 128 s1 (A9 now O),i4 Msg.enc 6 128 s2 (x5 now O),D8 o n (y9 now O)]) (l:=l)).1
  (hk h' (a1U [i4 Msg.enc 6 128 s1 (A9 now O),i4 Msg.enc 6 128 s2 (x5 now O),D8 o n (y9 now O)]) (i9 s1++(i9 s2++(o::i9 s3)))
   ⟨hf.size,fun b hb hn=>hf.same b hb fun h=>hn (by simp at h;simp[h])⟩ ?_ ?_)
 ·refine⟨i9 s1,i9 s2++(o::i9 s3),rfl,⟨rfl,o1.rebase fun _ _=>Nat.zero_le _⟩,⟨i9 s2,o::i9 s3,rfl,⟨rfl,o2.rebase fun _ _=>Nat.zero_le _⟩,⟨s3,[o],i9 s3,rfl,⟨rfl,i'.blk⟩,⟨rfl,i'.own.rebase fun _ _=>Nat.zero_le _⟩,by simpa using i'.apart⟩,?_⟩,?_⟩
  ·intro b hb hm
   rcases List.mem_cons.1 hm with rfl|hm
   ·have:=lt2 _ hb;omega
   ·exact bc b hb hm
  ·intro b hb hm
   rcases List.mem_append.1 hm with hm|hm
   ·exact ab b hb hm
   ·rcases List.mem_cons.1 hm with rfl|hm
    ·have:=lt1 _ hb;omega
    ·exact ac b hb hm
 ·intro b hm
  rcases List.mem_append.1 hm with hm|hm
  ·exact .inr (lt1 b hm)
  ·rcases List.mem_append.1 hm with hm|hm
   ·exact .inr (lt2 b hm)
   ·rcases List.mem_cons.1 hm with rfl|hm
    ·exact .inl (by simp)
    ·exact .inr (h3 b hm)
end
section
variable{h0 h:c9}{l:List HP}{L:Loc}{D:Cfg}{u:Value}{w:Wk}{U:List Unt}{m b i:Nat}{Au:Option Addr}{cu:Nat}
theorem c3Q(num:Int)(hc:∀h',St h0 h' l→D.rd h')(hu:∀h',St h0 h' l→Arr Unt.enc 4 h' Au U)(hD:Stc D U)(S:St h0 h (wkA L D (.slice Au U.length cu) w::l))(W:w.wf U m)(hm:m<400000):
  d8 Tryz.prog 152 [.pointer (some ⟨L.p,0,none⟩),.int .i64 num] h fun v h'=>a1c h0 L D (.slice Au U.length cu) l (a1I D.ss U w num) v h':=by
 refine EN i152.eq_1 fun K hK=>Wa ?_
 refine cI (b1Y num S W) ?_
 rintro _ _ ⟨rfl,⟨hn,rfl⟩|⟨i,b,hnum,hni,hi,hat,hA,rfl⟩⟩
 ·have hd:a1I D.ss U w num= .error 7:=by rw[a1I,hn]
  rw[hd]at hK
  refine Wa ?_
  exact hK _ _ ⟨by decide,rfl,S.tl⟩
 have hd:a1I D.ss U w num=if(w.R i).state=3 then a7C D.ss U w i else if(w.R i).state=1∨(w.R i).state=2 then M1 w num 8 else .ok w:=by rw[a1I,hat];simp only[hni]
 rw[hd]at hK
 obtain⟨x,hx,hrd,_,_,_⟩:=S.wkRet hA hi
 have q6:=hrd 6 (by omega)
 simp only[i0.enc,l_o,l_p,hx]at q6
 by_cases s3:(w.R i).state=3
 ·rw[if_pos s3]at hK
  refine Wb q6 ?_
  refine cI (c2q hc hu hD S W hm hA hi) ?_
  intro v h hv
  refine Wa ?_
  exact hK _ _ hv
 rw[if_neg s3]at hK
 by_cases s1:(w.R i).state=1
 ·rw[if_pos (.inl s1)]at hK
  refine Wb q6 ?_
  refine cI (a5l num 8 S W (by omega) hD.ul) ?_
  intro v h hv
  refine Wa ?_
  exact hK _ _ hv
 by_cases s2:(w.R i).state=2
 ·rw[if_pos (.inr s2)]at hK
  refine Wb q6 ?_
  refine cI (a5l num 8 S W (by omega) hD.ul) ?_
  intro v h hv
  refine Wa ?_
  exact hK _ _ hv
 rw[if_neg (fun h=>h.elim s1 s2)]at hK
 refine Wb q6 ?_
 exact hK _ _ ⟨rfl,S⟩
theorem a7n{α:Type}(f:Wk→α→Except Int Wk)(x:α):∀(xs:List α) (w:Wk),M5 f w (xs++ [x])=(M5 f w xs).bind fun w1=>f w1 x
 | [],w=>by
  show(f w x).bind _=f w x
  cases f w x<;>rfl
 |y::xs,w=>by
  show(f w y).bind _=((f w y).bind _).bind _
  cases h:f w y with
  |error e=>rfl
  |ok w1=>exact a7n f x xs w1
theorem a9a{α:Type}(f:Wk→α→Except Int Wk){e:Int}:∀(xs ys:List α) (w:Wk),M5 f w xs= .error e→M5 f w (xs++ys)= .error e
 | [],ys,w,h=>by cases h
 |x::xs,ys,w,h=>by
  show(f w x).bind _=_
  cases hf:f w x with
  |error e'=>
   have:(f w x).bind (fun w1=>M5 f w1 xs)= .error e:=h
   rw[hf]at this
   exact this
  |ok w1=>
   have:(f w x).bind (fun w1=>M5 f w1 xs)= .error e:=h
   rw[hf]at this
   exact a9a f xs ys w1 this
theorem St.wkTimX(S:St h0 h (wkA L D u w::l)):∃M,St h0 h (H2 L.t w.s.T::M)∧∀h' T' X,St h0 h' (H2 L.t T'::(X++M))→St h0 h' (wkA L D u {w with s:={w.s with T:=T'} }::(X++l)):=by
 obtain⟨sd,vs,hv,S⟩:=St.wk.1 S
 refine⟨_,S.p2,fun h' T' X S'=>St.wk.2 ⟨sd,vs,hv,?_⟩⟩
 have S2:=S'.perm (List.Perm.cons _ (List.perm_append_comm_assoc X (_::_::_::_::_::vs.map j2) l))
 exact S2.p2.p2
theorem St.wkObxX(S:St h0 h (wkA L D u w::l)):∃M,St h0 h (D8 L.o w.s.key w.s.O::M)∧∀h' key' O' X,St h0 h' (D8 L.o key' O'::(X++M))→St h0 h' (wkA L D u {w with s:={w.s with key:=key',O:=O'} }::(X++l)):=by
 obtain⟨sd,vs,hv,S⟩:=St.wk.1 S
 refine⟨_,S.p3,fun h' key' O' X S'=>St.wk.2 ⟨sd,vs,hv,?_⟩⟩
 have S2:=S'.perm (List.Perm.cons _ (List.perm_append_comm_assoc X (_::_::_::_::_::vs.map j2) l))
 exact S2.p3.p3.p3
theorem b1D{α:Type}(f:Wk→α→Except Int Wk){xs:List α}{j:Nat}(hj:j<xs.length){w w1:Wk}(h:M5 f w (xs.take j)= .ok w1):(∀e,f w1 xs[j]= .error e→M5 f w xs= .error e)∧∀w2,f w1 xs[j]= .ok w2→M5 f w (xs.take (j+1))= .ok w2:=by
 have h1:M5 f w (xs.take (j+1))=f w1 xs[j]:=by
  rw[l_t hj,a7n,h]
  rfl
 refine⟨fun e he=> ?_,fun w2 h2=>by rw[h1,h2]⟩
 rw[←G0 (j+1) xs]
 exact a9a f _ _ _ (by rw[h1,he])
def c4w(h0:c9)(L:Loc)(D:Cfg)(u:Value)(l:List HP)(x:Except Int (Wk×List Msg))(v:Value)(h':c9):Prop:=match x with
 | .error e=>e≠0∧v= .tuple #[.slice none 0 0,.int .i64 e]∧St h0 h' l
 | .ok y=>∃s,v= .tuple #[s,.int .i64 0]∧St h0 h' (wkA L D u y.1::i4 Msg.enc 6 128 s y.2::l)
end
end
end Go.Proofs.YtjagmebglhbdkaaGreat.MX
