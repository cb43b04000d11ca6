import Derived.Test.YtjagmebglhbdkaaGreatK33
namespace Go.Proofs.YtjagmebglhbdkaaGreat.MX
open Go Go.Proofs
set_option linter.unusedSimpArgs false
set_option linter.unusedVariables false
section
set_option maxHeartbeats 8000000
theorem a6d(w:Wk)(i:Nat):(j5 w i).s.now=w.s.now:=by
 unfold j5
 split<;>rfl
theorem c2a{w w':Wk}{num by_:Int}(h:M1 w num by_= .ok w'):w'.s.now=w.s.now:=by
 unfold M1 at h
 split at h
 ·cases h
 ·split at h
  ·cases h
  ·cases h
   exact a6d _ _
theorem b2k{w w':Wk}{a b sum:Int}(h:Q5 w a b sum= .ok w'):w'.s.now=w.s.now:=by
 obtain⟨l,_,rfl⟩:=u4 h
 rfl
theorem b0u{w w':Wk}{i:Nat}{sum:Int}(h:R9 w i sum= .ok w'):w'.s.now=w.s.now:=by
 unfold R9 at h
 split at h
 ·cases h;rfl
 ·split at h
  ·exact(b2k (show Q5 _ _ _ _=_ from h)).trans rfl
  ·cases h;rfl
theorem b6x(w:Wk)(i:Nat):(y8 w i).s.now=w.s.now:=by
 unfold y8
 split<;>rfl
theorem b3X{ss:List Sup}{w w':Wk}{i:Nat}{by_:Int}(h:G5 ss w i by_= .ok w'):w'.s.now=w.s.now:=by
 unfold G5 at h
 split at h
 ·cases h
 ·obtain⟨w1,h1,h⟩:=T5 h
  obtain⟨w2,h2,rfl⟩:=u4 h
  rw[b6x]
  have e1:=b2k h1
  have e2:w2.s.now=w1.s.now:=by
   split at h2
   ·split at h2
    ·rw[b0u h2,a6d]
    ·rw[b0u h2];rfl
   ·exact b0u h2
  rw[e2,e1]
  rfl
theorem b1T(U:List Unt)(w:Wk)(i:Nat):∀j,(u7 U w i j).s.now=w.s.now
 |0=>rfl
 |j+1=>b1T U w i j
theorem c1V{ss:List Sup}{U:List Unt}{w w':Wk}{num:Int}(h:a1I ss U w num= .ok w'):w'.s.now=w.s.now:=by
 unfold a1I at h
 split at h
 ·cases h
 ·split at h
  ·rw[b3X h,b1T]
  ·split at h
   ·exact c2a h
   ·cases h;rfl
section
variable{h0 h:c9}{l:List HP}{L:Loc}{D:Cfg}{u:Value}{w:Wk}{U:List Unt}{m b i:Nat}{Au:Option Addr}{cu:Nat}
theorem c3a(days:Int)(hc:∀h',St h0 h' l→D.rd h')(hu:∀h',St h0 h' l→Arr Unt.enc 4 h' Au U)(hD:Stc D U)(S:St h0 h (wkA L D (.slice Au U.length cu) w::l))(W:w.wf U m)(hm:m<300000)(hd64:I64 days):
  d8 Tryz.prog 94 [.pointer (some ⟨L.p,0,none⟩),.int .i64 days] h fun v h'=>c4w h0 L D (.slice Au U.length cu) l (a2h D.ss U w days) v h':=by
 have hnow:=W.now
 have htl:=W.tl
 have hd:a2h D.ss U w days=if days<1∨1000<days then .error 1 else if 100000<w.s.now+days then .error 2 else
  (M5 (a1I D.ss U) {w with s:={w.s with now:=w.s.now+days,T:=O1 w.s.T (w.s.now+days)} } ((O8 w.s.T (w.s.now+days)).map Tm.num)).bind fun w1=>
   (M5 (fun w (m:Msg)=>M1 w m.rma 8) {w1 with s:={w1.s with O:=y9 (w.s.now+days) w1.s.O} } (x5 (w.s.now+days) w1.s.O)).map fun w2=>(w2,A9 (w.s.now+days) w1.s.O):=rfl
 rw[hd]
 clear hd
 by_cases d1:days<1
 ·rw[if_pos (.inl d1)]
  refine EN i94.eq_1 fun K hK=> ?_
  refine Wa ?_
  exact hK _ _ ⟨by decide,rfl,S.tl⟩
 by_cases d2:1000<days
 ·rw[if_pos (.inr d2)]
  refine EN i94.eq_1 fun K hK=> ?_
  refine Wa ?_
  exact hK _ _ ⟨by decide,rfl,S.tl⟩
 rw[if_neg (fun h=>h.elim d1 d2)]
 obtain⟨sd,M,Sc,back⟩:=S.wkCell
 have F:=Sc.fx
 by_cases d3:100000<w.s.now+days
 ·rw[if_pos d3]
  refine EN i94.eq_1 fun K hK=> ?_
  refine Wc F @t8.eq_1 ?_
  exact hK _ _ ⟨by decide,rfl,S.tl⟩
 rw[if_neg d3]
 clear S
 refine EN i94.eq_1 fun K hK=> ?_
 refine Wc F @t8.eq_1 ?_
 refine tS Sc rfl rfl (l_a rfl) ?_
 clear Sc F
 intro h S
 rw[t8]at S
 replace S:=S.nm
 obtain⟨now,hnw⟩:∃now,now=w.s.now+days:=⟨_,rfl⟩
 rw[←hnw]at S hK d3
 have hnow':0≤now∧now≤100000:=by omega
 have S:St h0 h (wkA L D (.slice Au U.length cu) {w with s:={w.s with now:=now} }::l):=back _ {w.s with now:=now} rfl rfl rfl rfl rfl S
 clear back
 obtain⟨sd,M,Sc,_⟩:=S.wkCell
 have F:=Sc.fx
 refine Wa ?_
 refine dE ?_
 refine Wc F @t8.eq_1 ?_
 clear Sc F
 obtain⟨M,St1,back⟩:=S.wkTimX
 refine cI (c1m now St1 (by show w.s.T.length<_;omega)) ?_
 clear S St1
 intro v h S
 obtain⟨w0,hw0⟩:∃w0:Wk,w0={w with s:={w.s with now:=now,T:=O1 w.s.T now} }:=⟨_,rfl⟩
 have S:St h0 h (wkA L D (.slice Au U.length cu) w0::([i4 a8v 1 3 v ((O8 w.s.T now).map Tm.num)]++l)):=by
  rw[hw0]
  exact back h _ [i4 a8v 1 3 v ((O8 w.s.T now).map Tm.num)] S.p1
 have W0:w0.wf U m:=by rw[hw0];exact W.late hnow'
 have hn0:w0.s.now=now:=by rw[hw0]
 rw[←hw0]at hK
 clear back hw0
 have hdl:=b4L w.s.T now
 have hdn:((O8 w.s.T now).map Tm.num).length≤100:=by rw[l_z];omega
 generalize (O8 w.s.T now).map Tm.num=ds at*
 obtain⟨A,c,rfl⟩:=S.p1.sl
 have S:St h0 h (wkA L D (.slice Au U.length cu) w0::i4 a8v 1 3 (.slice A ds.length c) ds::l):=S
 refine Wa ?_
 refine lI (fun ρ h'=>ρ 0= .pointer (some ⟨L.p,0,none⟩)∧ρ 45= .slice A ds.length c∧ρ 46= .int .i64 ds.length∧∃(j:Nat) (w1:Wk),ρ 47= .int .i64 j∧j≤ds.length∧M5 (a1I D.ss U) w0 (ds.take j)= .ok w1∧w1.wf U (m+2*j)∧w1.s.now=now∧
  St h0 h' (wkA L D (.slice Au U.length cu) w1::i4 a8v 1 3 (.slice A ds.length c) ds::l)) (fun ρ _=>ds.length-(iv (ρ 47)).toNat) ?_ ?_
 ·refine Wa ?_
  exact⟨0,w0,rfl,by omega,rfl,W0.up (by omega),hn0,S⟩
 clear S
 rintro ρ h J hJ ⟨e0,e45,e46,j,w1,e47,hj,hf,W1,hn1,S⟩
 refine Wc e46 e47 ?_
 refine cD (fun hlt=> ?_) (fun hlt=> ?_)
 ·have hjl:j<ds.length:=by omega
  obtain⟨b1,o1,rfl,q1⟩:=(S.p1.arr b1J).at hjl
  have q1:=rP0 q1 (by omega)
  simp only[a8v,l_o,m9]at q1
  obtain⟨ferr,fok⟩:=b1D (a1I D.ss U) hjl hf
  generalize ds[j]=num at*
  refine Wf e0 e45 e47 q1 @m9 ?_
  refine cI (c3Q num (fun h' S=>hc h' S.tl) (fun h' S=>hu h' S.tl) hD S W1 (by omega)) ?_
  clear S q1
  intro v h hv
  cases hdu:a1I D.ss U w1 num with
  |error e=>
   rw[hdu]at hv
   obtain⟨he,rfl,S⟩:=hv
   have hfe:=ferr e hdu
   rw[hfe]at hK
   refine Wa ?_
   exact hK _ _ ⟨he,rfl,S.tl⟩
  |ok w2=>
   rw[hdu]at hv
   obtain⟨rfl,S⟩:=hv
   have hn2:w2.s.now=now:=by rw[c1V hdu];exact hn1
   refine Wb e47 ?_
   refine hJ _ _ ?_ ?_
   ·refine Wd e0 e45 e46 ?_
    exact⟨j+1,w2,rfl,by omega,fok w2 hdu,(b8K hdu W1).1.up (by omega),hn2,S⟩
   ·refine Wb e47 ?_
    omega
 obtain rfl:j=ds.length:=by omega
 rw[C9]at hf
 rw[hf]at hK
 have hK':∀(v:Value) (h':c9),c4w h0 L D (.slice Au U.length cu) l ((M5 (fun w (m:Msg)=>M1 w m.rma 8) {w1 with s:={w1.s with O:=y9 now w1.s.O} } (x5 now w1.s.O)).map fun w2=>(w2,A9 now w1.s.O)) v h'→K v h':=hK
 clear hK hJ hf e45 e46 e47
 have S:=S.d1
 have hol:=W1.ol
 have W1':w1.wf U (m+200):=W1.up (by omega)
 clear W1
 obtain⟨sd,M,Sc,_⟩:=S.wkCell
 have F:=Sc.fx
 refine Wa ?_
 refine dE ?_
 refine We e0 F @t8.eq_1 hn1 ?_
 clear Sc F
 obtain⟨M,So,back⟩:=S.wkObxX
 refine cI (b5L now So (by omega) ⟨by omega,by omega⟩ (fun x hx=>by have:=W1'.ot x hx;omega)) ?_
 clear S So
 rintro _ h ⟨s1,s2,rfl,S⟩
 obtain⟨w2,hw2⟩:∃w2:Wk,w2={w1 with s:={w1.s with O:=y9 now w1.s.O} }:=⟨_,rfl⟩
 have S:St h0 h (wkA L D (.slice Au U.length cu) w2::([i4 Msg.enc 6 128 s1 (A9 now w1.s.O),i4 Msg.enc 6 128 s2 (x5 now w1.s.O)]++l)):=by
  rw[hw2]
  exact back h _ _ [_,_] S.p2
 have W2:w2.wf U (m+201):=by rw[hw2];exact W1'.left now
 rw[←hw2]at hK'
 clear back hw2
 have hgl:(x5 now w1.s.O).length≤1000000:=by
  have h1:=F6 (F7 now) (a3b now) w1.s.O
  unfold x5
  omega
 generalize x5 now w1.s.O=gs at*
 generalize A9 now w1.s.O=ss at*
 obtain⟨A,c,rfl⟩:=S.p2.sl
 have S:St h0 h (wkA L D (.slice Au U.length cu) w2::i4 Msg.enc 6 128 s1 ss::i4 Msg.enc 6 128 (.slice A gs.length c) gs::l):=S
 refine Wa ?_
 refine lI (fun ρ h'=>ρ 0= .pointer (some ⟨L.p,0,none⟩)∧ρ 9=s1∧ρ 70= .slice A gs.length c∧ρ 71= .int .i64 gs.length∧∃(j:Nat) (w3:Wk),ρ 72= .int .i64 j∧j≤gs.length∧M5 (fun w (m:Msg)=>M1 w m.rma 8) w2 (gs.take j)= .ok w3∧w3.wf U (m+201)∧
  St h0 h' (wkA L D (.slice Au U.length cu) w3::i4 Msg.enc 6 128 s1 ss::i4 Msg.enc 6 128 (.slice A gs.length c) gs::l)) (fun ρ _=>gs.length-(iv (ρ 72)).toNat) ?_ ?_
 ·refine Wb e0 ?_
  exact⟨0,w2,rfl,by omega,rfl,W2,S⟩
 clear S e0
 rintro ρ h J hJ ⟨e0,e9,e70,e71,j,w3,e72,hj,hf,W3,S⟩
 refine Wc e71 e72 ?_
 refine cD (fun hlt=> ?_) (fun hlt=> ?_)
 ·have hjl:j<gs.length:=by omega
  obtain⟨b1,o1,rfl,q1⟩:=(S.p2.arr enc_len).at hjl
  obtain⟨ferr,fok⟩:=b1D (fun w (m:Msg)=>M1 w m.rma 8) hjl hf
  generalize gs[j]=x at*
  refine Wd e70 e72 q1 ?_
  (revert S;(try clear F);refine AL fun q h S F=> ?_)
  refine Wc F @Msg.enc.eq_1 ?_
  (revert S;(try clear F);refine ST fun h S F=> ?_)
  refine Wc e0 F ?_
  refine cI (a5l x.rma 8 S.p1 W3 (by omega) hD.ul) ?_
  clear S F q1
  intro v h hv
  cases hdu:M1 w3 x.rma 8 with
  |error e=>
   rw[hdu]at hv
   obtain⟨he,rfl,S⟩:=hv
   have hfe:=ferr e hdu
   rw[hfe]at hK'
   refine Wa ?_
   exact hK' _ _ ⟨he,rfl,S.tl.tl.tl⟩
  |ok w4=>
   rw[hdu]at hv
   obtain⟨rfl,S⟩:=hv
   refine Wb e72 ?_
   refine hJ _ _ ?_ ?_
   ·refine We e0 e9 e70 e71 ?_
    exact⟨j+1,w4,rfl,by omega,fok w4 hdu,(a3L hdu W3).1,S.d1⟩
   ·refine Wb e72 ?_
    omega
 obtain rfl:j=gs.length:=by omega
 rw[C9]at hf
 rw[hf]at hK'
 refine Wb e9 ?_
 exact hK' _ _ ⟨s1,rfl,S.p2.tl⟩
end
end
section
set_option maxHeartbeats 8000000
section
variable{h0 h:c9}{l:List HP}{L:Loc}{D:Cfg}{u:Value}{w:Wk}{U:List Unt}{m b i:Nat}
theorem c2H(sum:Int)(yes:Bool)(S:St h0 h (wkA L D u w::l))(hA:L.A=some ⟨b,0,none⟩)(hi:i<w.s.R.length):d8 Tryz.prog 155 [.pointer (some ⟨L.p,0,none⟩),.pointer (some ⟨b,i*14,none⟩),.int .i64 sum,.bool yes] h fun v h'=>a1c h0 L D u l (a0T w i sum yes) v h':=by
 cases yes with
 |false=>
  have hd:a0T w i sum false=X0 w i sum:=rfl
  rw[hd]
  refine EN i155.eq_1 fun K hK=> ?_
  refine Wa ?_
  refine cI (a8S sum S hA hi) ?_
  intro v h hv
  refine Wa ?_
  exact hK _ _ hv
 |true=>
  have hd:a0T w i sum true=Q5 (w.put i {w.R i with paid:=w64 ((w.R i).paid+sum)}) 1 2 sum:=rfl
  rw[hd]
  obtain⟨x,hx,hrd,_,_,_⟩:=S.wkRet hA hi
  have q:=hrd 11 (by omega)
  simp only[i0.enc,l_o,l_p,hx]at q
  refine EN i155.eq_1 fun K hK=> ?_
  refine Wb q ?_
  refine Y6 (r':={w.R i with paid:=w64 ((w.R i).paid+sum)}) S hA hi (j:=11) (by omega) rfl rfl rfl (fun x hx=>by rw[i0.enc,i0.enc,hx];rfl) ?_
  clear S hrd q
  intro h S
  refine Wa ?_
  refine cI (a6B 1 2 sum (by omega) S) ?_
  clear S
  intro v h hv
  refine Wa ?_
  exact hK _ _ hv
theorem b3Z(yes:Bool)(hc:∀h',St h0 h' l→D.rd h')(hD:Stc D U)(S:St h0 h (wkA L D u w::l))(W:w.wf U m)(hm:m<400000)(hA:L.A=some ⟨b,0,none⟩)(hi:i<w.s.R.length):d8 Tryz.prog 156 [.pointer (some ⟨L.p,0,none⟩),.pointer (some ⟨b,i*14,none⟩),.bool yes] h fun v h'=>a1c h0 L D u l (I6 D.ss w i yes) v h':=by
 have hss:=hD.cfg.len.2.1
 have hkl:=W.kl
 have hul:=hD.ul
 obtain⟨x,hx,hrd,_,_,_⟩:=S.wkRet hA hi
 obtain⟨sd,M,Sc,_⟩:=S.wkCell
 have F:=Sc.fx
 have q3:=hrd 3 (by omega)
 simp only[i0.enc,l_o,l_p,hx]at q3
 refine EN i156.eq_1 fun K hK=>Wa ?_
 refine dE ?_
 refine Wd F @t8.eq_1 q3 ?_
 rw[show [Value.slice D.A1 D.os.length D.c1,.slice D.A2 D.ss.length D.c2,.slice D.A3 D.ps.length D.c3]=D.enc from rfl]
 refine cI (a5d D _ (hc _ S.tl).ss (by omega)) ?_
 clear Sc F hrd q3 hx
 rintro _ h ⟨rfl,f1⟩
 have S:=S.frame f1
 clear f1
 obtain⟨price,hpr⟩:∃price,price=(u3 D.ss (w.R i).want).getD 0:=⟨_,rfl⟩
 rw[←hpr]
 cases yes with
 |false=>
  have hd:I6 D.ss w i false=R9 (j5 w i) i price:=by rw[hpr];rfl
  rw[hd]at hK
  refine Wa ?_
  refine cI (a4b S W hul hA hi) ?_
  clear S
  intro v h S
  refine Wa ?_
  refine cI (b9W price S (W.release hi) (by omega) hA (by rw[D4];exact hi)) ?_
  clear S
  intro v h hv
  refine Wa ?_
  exact hK _ _ hv
 |true=>
  obtain⟨w1,hw1⟩:∃w1,w1=w.put i {w.R i with given:=w64 ((w.R i).given+price)}:=⟨_,rfl⟩
  have hd:I6 D.ss w i true=if H9 w1.s.K (w1.R i).res 8=0 then Q5 (w1.mv (w1.R i).res 8) 1 4 price else .error (H9 w1.s.K (w1.R i).res 8):=by rw[hw1,hpr];rfl
  rw[hd]at hK
  have W1:w1.wf U m:=by rw[hw1];exact W.putR hi rfl rfl
  have hi1:i<w1.s.R.length:=by rw[hw1,o7];exact hi
  obtain⟨x,hx,hrd,_,_,_⟩:=S.wkRet hA hi
  have q:=hrd 13 (by omega)
  simp only[i0.enc,l_o,l_p,hx]at q
  refine Wb q ?_
  refine Y6 (r':={w.R i with given:=w64 ((w.R i).given+price)}) S hA hi (j:=13) (by omega) rfl rfl rfl (fun x hx=>by rw[i0.enc,i0.enc,hx];rfl) ?_
  clear S hrd q hx
  intro h S
  rw[←hw1]at S
  clear hw1 hd
  have hkl1:=W1.kl
  obtain⟨x,hx,hrd,_,_,_⟩:=S.wkRet hA hi1
  have q4:=hrd 4 (by omega)
  simp only[i0.enc,l_o,l_p,hx]at q4
  obtain⟨sd,M,Sc,_⟩:=S.wkCell
  have F:=Sc.fx
  refine Wa ?_
  refine dE ?_
  refine Wd q4 F @t8.eq_1 ?_
  clear Sc F hrd q4 hx
  obtain⟨M,Sk,back⟩:=S.wkStock
  refine cI (a0L _ 8 Sk (by omega)) ?_
  clear S Sk
  rintro _ h ⟨rfl,Sk⟩
  have S:=back _ _ Sk
  clear back Sk
  by_cases he:H9 w1.s.K (w1.R i).res 8=0
  ·rw[if_pos he]at hK
   refine Wa ?_
   refine cI (a6B 1 4 price (by omega) S) ?_
   clear S
   intro v h hv
   refine Wa ?_
   exact hK _ _ hv
  ·rw[if_neg he]at hK
   refine Wa ?_
   exact hK _ _ ⟨he,rfl,S.tl⟩
theorem b1K{O:List Msg}{key:Int}:(K5 (fun m:Msg=>decide (m.key=key)) O 0= -1→O.findIdx? (fun m=>decide (m.key=key))=none)∧∀j:Nat,j<O.length→K5 (fun m:Msg=>decide (m.key=key)) O 0=j→O.findIdx? (fun m=>decide (m.key=key))=some j:=by
 rcases R6 (fun m:Msg=>decide (m.key=key)) O 0 with⟨hx,hall⟩|⟨k,hx,hkl,hbef,hat⟩
 ·refine⟨fun _=> ?_,fun j hj h=> ?_⟩
  ·rw[List.findIdx?_eq_none_iff]
   exact hall
  ·have hx:K5 (fun m:Msg=>decide (m.key=key)) O 0= -1:=hx
   rw[hx]at h;omega
 ·have hx:K5 (fun m:Msg=>decide (m.key=key)) O 0=(k:Int):=by simpa using hx
  refine⟨fun h=> ?_,fun j hj h=> ?_⟩
  ·rw[hx]at h;omega
  ·rw[hx]at h
   obtain rfl:k=j:=by omega
   rw[a8w]
   refine⟨hj,hat _ (l_r hj),fun i hi=> ?_⟩
   have:=hbef (O[i]'(by omega)) (by
    rw[List.mem_take_iff_getElem]
    exact⟨i,by omega,rfl⟩)
   rw[this]
   decide
end
end
section
set_option maxHeartbeats 8000000
section
variable{h0 h:c9}{l:List HP}{L:Loc}{D:Cfg}{u:Value}{w:Wk}{U:List Unt}{m b i:Nat}
theorem c0i(key:Int)(yes:Bool)(hc:∀h',St h0 h' l→D.rd h')(hD:Stc D U)(S:St h0 h (wkA L D u w::l))(W:w.wf U m)(hm:m<400000):d8 Tryz.prog 95 [.pointer (some ⟨L.p,0,none⟩),.int .i64 key,.bool yes] h fun v h'=>a1c h0 L D u l (Z3 D.ss w key yes) v h':=by
 have hol:=W.ol
 have hul:=hD.ul
 obtain⟨sd,M,Sc,_⟩:=S.wkCell
 have F:=Sc.fx
 refine EN i95.eq_1 fun K hK=> ?_
 refine Wc F @t8.eq_1 ?_
 clear Sc F
 obtain⟨M,So,back⟩:=S.wkObx
 refine cI (b5Y key So (by omega)) ?_
 clear S So
 rintro _ h (⟨hn,rfl,So⟩|⟨j,hj,hix,rfl,So⟩)
 ·have hd:Z3 D.ss w key yes= .error 16:=by rw[Z3,b1K.1 hn]
  rw[hd]at hK
  have S:=back _ _ _ So
  refine Wc @Msg.enc.eq_1 @Msg.zero.eq_1 ?_
  (revert S;(try clear F);refine AL fun q h S F=> ?_)
  refine Wa ?_
  refine tS S rfl rfl (l_a rfl) ?_
  clear S F
  intro h S
  refine Wa ?_
  exact hK _ _ ⟨by decide,rfl,S.tl.tl⟩
 have hidx:=b1K.2 j hj hix
 obtain⟨w1,hw1⟩:∃w1:Wk,w1={w with s:={w.s with O:=w.s.O.take j++w.s.O.drop (j+1)} }:=⟨_,rfl⟩
 obtain⟨x,hxm⟩:∃x:Msg,x=w.s.O[j]:=⟨_,rfl⟩
 have hgd:w.s.O.getD j Msg.zero=x:=by rw[hxm,l_s,l_r hj];rfl
 have S:St h0 h (wkA L D u w1::l):=by rw[hw1];exact back _ _ _ So
 clear back So
 have hsub:(w.s.O.take j++w.s.O.drop (j+1)).Sublist w.s.O:=by
  conv=>rhs;rw[←G0 j w.s.O]
  exact List.Sublist.append_left (by rw[←List.drop_drop];exact List.drop_sublist _ _) _
 have W1:w1.wf U m:=by
  rw[hw1]
  exact⟨W.kl,W.rl,W.rr,W.tg,W.tn,Z0 hsub.length_le W.ol,fun x hx=>W.ot x (hsub.subset hx),W.key,W.sl,W.now⟩
 have hd:Z3 D.ss w key yes=match w1.s.at_ x.rma with
  |none=> .error 7
  |some _=>if x.kind=1∧yes=false then M1 w1 x.rma 8 else
    (if x.kind=1 then H3 w1 x.rma 1 else if x.kind=2 then a0T w1 (x.rma-1).toNat x.value yes else if x.kind=3 then I6 D.ss w1 (x.rma-1).toNat yes
     else if H9 w1.s.K x.value (I8 yes)=0 then .ok (w1.mv x.value (I8 yes))else .error (H9 w1.s.K x.value (I8 yes))).map fun w2=>y8 w2 (x.rma-1).toNat:=by
  unfold Z3
  rw[hidx]
  simp only[hgd]
  rw[hw1]
  rfl
 rw[hd]at hK
 clear hd hw1 hgd hidx hix hsub
 rw[←hxm]
 clear hxm hj hol W
 refine Wb @Msg.enc.eq_1 ?_
 (revert S;(try clear F);refine AL fun q h S F=> ?_)
 refine Wa ?_
 refine tS S rfl rfl (l_a rfl) ?_
 clear S F
 intro h S
 replace S:=S.nm
 have S:St h0 h (wkA L D u w1::d9 q x.enc 128::l):=S.p1
 have hc':∀h',St h0 h' (d9 q x.enc 128::l)→D.rd h':=fun h' S=>hc h' S.tl
 ((try clear F);have F:=S.fx)
 refine Wc F @Msg.enc.eq_1 ?_
 refine cI (b1Y x.rma S W1) ?_
 rintro _ _ ⟨rfl,⟨hn,rfl⟩|⟨i,b,hnum,hni,hi,hat,hA,rfl⟩⟩
 ·rw[hn]at hK
  refine Wa ?_
  exact hK _ _ ⟨by decide,rfl,S.tl.tl⟩
 rw[hat,hni]at hK
 have hkl:=W1.kl
 by_cases k1:x.kind=1
 ·cases yes with
  |false=>
   simp only[k1,and_self,if_true]at hK
   refine Wc F @Msg.enc.eq_1 ?_
   refine cI (a5l x.rma 8 S W1 (by omega) hul) ?_
   clear S F
   intro v h hv
   refine Wa ?_
   refine hK _ _ ?_
   cases hp:M1 w1 x.rma 8 with
   |error e=>
    rw[hp]at hv
    exact⟨hv.1,hv.2.1,hv.2.2.tl⟩
   |ok w2=>
    rw[hp]at hv
    exact⟨hv.1,hv.2.d1⟩
  |true=>
   simp only[k1,Bool.true_eq_false,and_false,if_false,if_true]at hK
   refine Wc F @Msg.enc.eq_1 ?_
   refine cI (b0H x.rma 1 S W1) ?_
   clear S F
   intro v h hv
   cases hp:H3 w1 x.rma 1 with
   |error e=>
    rw[hp]at hv hK
    obtain⟨he,rfl,S⟩:=hv
    refine Wa ?_
    exact hK _ _ ⟨he,rfl,S.tl⟩
   |ok w2=>
    rw[hp]at hv hK
    obtain⟨i',b',hnum',hni',hi',hA',rfl,S⟩:=hv
    obtain⟨W2,l2,_⟩:=a3q hp W1
    refine Wa ?_
    refine cI (a1i S W2 (by omega) hA (by omega)) ?_
    clear S
    rintro _ h ⟨rfl,S⟩
    refine Wa ?_
    exact hK _ _ ⟨rfl,S.d1⟩
 have hk1:∀yes,¬(x.kind=1∧yes=false):=fun _ h=>k1 h.1
 simp only[k1,false_and,if_false]at hK
 by_cases k2:x.kind=2
 ·rw[if_pos k2]at hK
  refine Wc F @Msg.enc.eq_1 ?_
  refine cI (c2H x.value yes S hA hi) ?_
  clear S F
  intro v h hv
  cases hp:a0T w1 i x.value yes with
  |error e=>
   rw[hp]at hv hK
   obtain⟨he,rfl,S⟩:=hv
   refine Wa ?_
   exact hK _ _ ⟨he,rfl,S.tl⟩
  |ok w2=>
   rw[hp]at hv hK
   obtain⟨rfl,S⟩:=hv
   obtain⟨W2,l2⟩:=b5o hi hp W1
   refine Wa ?_
   refine cI (a1i S W2 (by omega) hA (by omega)) ?_
   clear S
   rintro _ h ⟨rfl,S⟩
   refine Wa ?_
   exact hK _ _ ⟨rfl,S.d1⟩
 rw[if_neg k2]at hK
 by_cases k3:x.kind=3
 ·rw[if_pos k3]at hK
  refine Wc F @Msg.enc.eq_1 ?_
  refine cI (b3Z yes hc' hD S W1 hm hA hi) ?_
  clear S F
  intro v h hv
  cases hp:I6 D.ss w1 i yes with
  |error e=>
   rw[hp]at hv hK
   obtain⟨he,rfl,S⟩:=hv
   refine Wa ?_
   exact hK _ _ ⟨he,rfl,S.tl⟩
  |ok w2=>
   rw[hp]at hv hK
   obtain⟨rfl,S⟩:=hv
   obtain⟨W2,l2⟩:=a8a hi hp W1
   refine Wa ?_
   refine cI (a1i S W2 (by omega) hA (by omega)) ?_
   clear S
   rintro _ h ⟨rfl,S⟩
   refine Wa ?_
   exact hK _ _ ⟨rfl,S.d1⟩
 rw[if_neg k3]at hK
 obtain⟨sd,M,Sc,_⟩:=S.wkCell
 have F2:=Sc.fx
 cases yes with
 |true=>
  rw[show I8 true=0 from rfl]at hK
  refine Wc F @Msg.enc.eq_1 ?_
  refine dE ?_
  refine We F F2 @t8.eq_1 @Msg.enc.eq_1 ?_
  clear Sc F2 F
  obtain⟨M,Sk,back⟩:=S.wkStock
  refine cI (a0L x.value 0 Sk (by omega)) ?_
  clear S Sk
  rintro _ h ⟨rfl,Sk⟩
  have S:=back _ _ Sk
  clear back Sk
  by_cases he:H9 w1.s.K x.value 0=0
  ·rw[if_pos he]at hK
   refine Wb he ?_
   refine cI (a1i S (W1.mv _ _) (by omega) hA hi) ?_
   clear S
   rintro _ h ⟨rfl,S⟩
   refine Wa ?_
   exact hK _ _ ⟨rfl,S.d1⟩
  ·rw[if_neg he]at hK
   refine Wa ?_
   exact hK _ _ ⟨he,rfl,S.tl.tl⟩
 |false=>
  rw[show I8 false=6 from rfl]at hK
  refine Wc F @Msg.enc.eq_1 ?_
  refine dE ?_
  refine We F F2 @t8.eq_1 @Msg.enc.eq_1 ?_
  clear Sc F2 F
  obtain⟨M,Sk,back⟩:=S.wkStock
  refine cI (a0L x.value 6 Sk (by omega)) ?_
  clear S Sk
  rintro _ h ⟨rfl,Sk⟩
  have S:=back _ _ Sk
  clear back Sk
  by_cases he:H9 w1.s.K x.value 6=0
  ·rw[if_pos he]at hK
   refine Wb he ?_
   refine cI (a1i S (W1.mv _ _) (by omega) hA hi) ?_
   clear S
   rintro _ h ⟨rfl,S⟩
   refine Wa ?_
   exact hK _ _ ⟨rfl,S.d1⟩
  ·rw[if_neg he]at hK
   refine Wa ?_
   exact hK _ _ ⟨he,rfl,S.tl.tl⟩
end
end
section
set_option maxHeartbeats 8000000
theorem c4Q(p:Pol)(g:Int)(hp:p.right)(hg:isR g)(h:c9):d8 Tryz.prog 147 [.agg p.enc.toArray,.int .i64 g] h fun v h'=>v= .tuple #[.int .i64 (p.gto g),.int .i64 0]∧Fr h h' []:=by
 have S:=St.nil h
 refine EN i147.eq_1 fun K hK=>Wa ?_
 (revert S;(try clear F);refine AL fun b h S F=> ?_)
 refine Wc F @Pol.enc.eq_1 ?_
 refine cI (a3o p _) ?_
 rintro _ h ⟨rfl,f1⟩
 have S:=S.frame f1
 rw[dT hp]
 refine Wa ?_
 refine cI (b0A g _) ?_
 rintro _ _ ⟨rfl,rfl⟩
 rw[dT hg]
 ((try clear F);have F:=S.fx)
 rcases b9j hg with rfl|rfl|rfl|rfl<;>
 ·refine Wc F @Pol.enc.eq_1 ?_
  exact hK _ _ ⟨by simp[Pol.gto],S.fr⟩
theorem b5X{h0:c9}(x:i0)(hb:Arr i6 1 h0 x.B x.r.gs)(l2:x.r.gs.length<1000000)(hl:x.r.gs.length=x.r.us.length):d8 Tryz.prog 149 [.agg x.enc.toArray] h0 fun v h'=>v= .bool (!dcd ((-1:Int)∈x.r.gs))∧Fr h0 h' []:=by
 have S:=St.nil h0
 have hl':(x.r.gs.length:Int)=x.r.us.length:=by omega
 refine EN i149.eq_1 fun K hK=>Wa ?_
 (revert S;(try clear F);refine AL fun b h S F=> ?_)
 refine Wc F @i0.enc.eq_1 ?_
 refine cI (a4g (-1) (hb.fr S.fr (by simp)) l2) ?_
 rintro _ _ ⟨rfl,rfl⟩
 refine Wa ?_
 exact hK _ _ ⟨rfl,S.fr⟩
theorem c3D{h0:c9}(x:i0)(ha:Arr i6 1 h0 x.A x.r.us)(l1:x.r.us.length<1000000)(v:Int):d8 Tryz.prog 116 [.agg x.enc.toArray,.int .i64 v] h0 fun r h'=>r= .int .i64 (ixI x.r.us v)∧Fr h0 h' []:=by
 have S:=St.nil h0
 refine EN i116.eq_1 fun K hK=>Wa ?_
 (revert S;(try clear F);refine AL fun b h S F=> ?_)
 refine Wc F @i0.enc.eq_1 ?_
 refine cI (b0X v (ha.fr S.fr (by simp)) l1) ?_
 rintro _ _ ⟨rfl,rfl⟩
 refine Wa ?_
 exact hK _ _ ⟨rfl,S.fr⟩
noncomputable def resG(h0:c9)(l:List HP)(r:Ret)(grade:Int)(x:Except Int Nat)(v:Value)(h':c9):Prop:=match x with
 | .error e=>e≠0∧v= .tuple #[.agg zR.enc.toArray,.int .i64 e]∧St h0 h' l
 | .ok j=>j<r.us.length∧∃y:i0,y.r={r with gs:=r.gs.set j grade}∧v= .tuple #[.agg y.enc.toArray,.int .i64 0]∧St h0 h' (j2 y::l)
section
variable{h0 h:c9}{l:List HP}
theorem a8G(x:i0)(unit grade:Int)(ha:∀h',St h0 h' l→Arr i6 1 h' x.A x.r.us)(hb:∀h',St h0 h' l→Arr i6 1 h' x.B x.r.gs)(l1:x.r.us.length<1000000)(l2:x.r.gs.length<1000000)(hgl:x.r.gs.length=x.r.us.length)(S:St h0 h l):
  d8 Tryz.prog 146 [.agg x.enc.toArray,.int .i64 unit,.int .i64 grade] h fun v h'=>resG h0 l x.r grade (N9 x.r unit grade) v h':=by
 have hd:N9 x.r unit grade=if dcd (x.r.right∧btw grade 0 4)=false then .error 1 else match x.r.us.findIdx? fun u=>decide (u=unit)with
  |none=> .error 7
  |some j=>if x.r.gs.getD j 0≠-1 then .error 8 else .ok j:=rfl
 refine EN i146.eq_1 fun K hK=>Wa ?_
 (revert S;(try clear F);refine AL fun b h S F=> ?_)
 refine Wa ?_
 (revert S;(try clear F);refine AL fun g h S F=> ?_)
 refine Wb F ?_
 refine cI (c3D x (ha _ S.tl.tl) l1 unit) ?_
 rintro _ h ⟨rfl,f1⟩
 have S:=S.frame f1
 clear f1
 have S:St h0 h (d9 g zR.enc 136::d9 b x.enc 136::l):=S
 ((try clear F);have F:=S.fx)
 refine Wc F @i0.enc.eq_1 ?_
 refine cI (a5R x (ha _ S.tl.tl) (hb _ S.tl.tl) l1 l2) ?_
 rintro _ h ⟨rfl,f1⟩
 have S:=S.frame f1
 clear f1 F
 by_cases hr:x.r.right
 case neg=>
  rw[if_pos (dF fun h=>hr h.1)]at hd
  rw[hd]at hK
  rw[dF hr]
  refine Wa ?_
  refine tS S rfl rfl (l_a rfl) ?_
  clear S
  intro h S
  have S:St h0 h (d9 g zR.enc 136::d9 b x.enc 136::l):=S
  ((try clear F);have F:=S.fx)
  refine We F @zR.eq_1 @Ret.zero.eq_1 @i0.enc.eq_1 ?_
  exact hK _ _ ⟨by decide,rfl,S.tl.tl⟩
 rw[dT hr]
 refine Wa ?_
 refine cI (F0 _ _ _ _) ?_
 rintro _ _ ⟨rfl,rfl⟩
 by_cases hg:btw grade 0 4
 case neg=>
  rw[if_pos (dF fun h=>hg h.2)]at hd
  rw[hd]at hK
  rw[dF hg]
  refine Wa ?_
  refine tS S rfl rfl (l_a rfl) ?_
  clear S
  intro h S
  have S:St h0 h (d9 g zR.enc 136::d9 b x.enc 136::l):=S
  ((try clear F);have F:=S.fx)
  refine We F @zR.eq_1 @Ret.zero.eq_1 @i0.enc.eq_1 ?_
  exact hK _ _ ⟨by decide,rfl,S.tl.tl⟩
 rw[dT hg]
 rw[if_neg (by rw[dT ⟨hr,hg⟩];decide)]at hd
 cases hix:x.r.us.findIdx? fun u=>decide (u=unit)with
 |none=>
  rw[hix]at hd
  simp only at hd
  rw[hd]at hK
  have hi1:ixI x.r.us unit= -1:=by rw[ixI,hix]
  refine Wb hi1 ?_
  refine tS S rfl rfl (l_a rfl) ?_
  clear S
  intro h S
  have S:St h0 h (d9 g zR.enc 136::d9 b x.enc 136::l):=S
  ((try clear F);have F:=S.fx)
  refine We F @zR.eq_1 @Ret.zero.eq_1 @i0.enc.eq_1 ?_
  exact hK _ _ ⟨by decide,rfl,S.tl.tl⟩
 |some j=>
  rw[hix]at hd
  simp only at hd
  have hi1:ixI x.r.us unit=(j:Int):=by rw[ixI,hix]
  have hjl:j<x.r.us.length:=by
   rw[a8w]at hix
   exact hix.1
  obtain⟨b1,o1,hB,q1⟩:=(hb _ S.tl.tl).at (i:=j) (by omega)
  have q1:=rP0 q1 (by omega)
  simp only[i6,l_o,m9]at q1
  rw[←l7]at q1
  ((try clear F);have F:=S.fx)
  by_cases hgj:x.r.gs.getD j 0= -1
  case neg=>
   rw[if_pos hgj]at hd
   rw[hd]at hK
   refine Wg hi1 F @i0.enc.eq_1 hB q1 @m9 ?_
   refine tS S rfl rfl (l_a rfl) ?_
   clear S F q1
   intro h S
   have S:St h0 h (d9 g zR.enc 136::d9 b x.enc 136::l):=S
   ((try clear F);have F:=S.fx)
   refine We F @zR.eq_1 @Ret.zero.eq_1 @i0.enc.eq_1 ?_
   exact hK _ _ ⟨by decide,rfl,S.tl.tl⟩
  rw[if_neg (fun h=>h hgj)]at hd
  rw[hd]at hK
  refine Wh hi1 F @i0.enc.eq_1 hB q1 @m9 hgj ?_
  have hcl:=a8F x (fun h' S=>ha h' S.tl.tl) (fun h' S=>hb h' S.tl.tl) l1 l2 S
  rw[i0.enc,hB]at hcl
  refine cI hcl ?_
  clear S F q1 hcl
  rintro _ h ⟨y,rfl,hy,S⟩
  refine Wa ?_
  refine tS S.p2 rfl rfl (l_a rfl) ?_
  clear S
  intro h S
  rw[i0.enc,i0.enc]at S
  replace S:=S.nm
  have S:St h0 h (d9 b y.enc 136::j2 y::d9 g zR.enc 136::l):=S
  have Sg:=St.star.1 S.p1
  have hgl2:y.r.gs.length=x.r.us.length:=by rw[hy,hgl]
  obtain⟨bg,hbg⟩:=Sg.p1.ownAt (by omega)
  ((try clear F);have F:=S.fx)
  refine We F @i0.enc.eq_1 hbg hi1 ?_
  have Sg:=Sg.p1
  rw[hbg]at Sg
  refine v7 zEl (i:=j) (x:=grade) Sg (by omega) (by rw[m9];try rfl) rfl rfl rfl ?_
  clear S Sg F
  intro h S
  obtain⟨z,hz⟩:∃z:i0,z={y with r:={x.r with gs:=x.r.gs.set j grade} }:=⟨_,rfl⟩
  have hrow:j2 z=a2S (i4 i6 1 3 (.slice y.A y.r.us.length y.c) y.r.us) (i4 i6 1 3 (.slice (some ⟨bg,0,none⟩) y.r.gs.length y.d) (y.r.gs.set j grade)):=by
   rw[hz,j2]
   simp only[T3,hbg,hy]
  have S:=St.star.2 S.p1
  rw[←hrow]at S
  have henc:z.enc=y.enc:=by rw[hz,i0.enc,i0.enc];simp only[T3,hy]
  have S:St h0 h (d9 b z.enc 136::j2 z::d9 g zR.enc 136::l):=by rw[henc];exact S.p1
  clear hrow henc
  ((try clear F);have F:=S.fx)
  refine Wb F ?_
  refine tS S.p2 rfl rfl (l_a rfl) ?_
  clear S F
  intro h S
  have S:St h0 h (d9 g z.enc 136::d9 b z.enc 136::j2 z::l):=S
  ((try clear F);have F:=S.fx)
  refine Wb F ?_
  refine hK _ _ ⟨hjl,z,by rw[hz],rfl,S.tl.tl⟩
end
section
variable{h0 h:c9}{l:List HP}{L:Loc}{D:Cfg}{w:Wk}{U:List Unt}{m b i:Nat}{Au:Option Addr}{cu:Nat}
theorem a3Y(n:Nat)(hn:n<U.length)(hc:∀h',St h0 h' l→D.rd h')(hu:∀h',St h0 h' l→Arr Unt.enc 4 h' Au U)(S:St h0 h (wkA L D (.slice Au U.length cu) w::l)):
  d8 Tryz.prog 136 [.pointer (some ⟨L.p,0,none⟩),.int .i64 (n:Int)] h fun v h'=>v= .agg (C8 D.ps (j9 U n).cat).enc.toArray∧St h0 h' (wkA L D (.slice Au U.length cu) w::l):=by
 have hat:j9 U (n:Int)=U[n]:=by rw[j9,K0,l_s,l_r hn];rfl
 rw[hat]
 obtain⟨b4,o4,rfl,_⟩:=(hu _ S.tl).at hn
 have hqU:∀{h':c9},St h0 h' l→rd1 h' (.pointer (some ⟨b4,o4+n*4+2,none⟩))=some (.int .i64 U[n].cat):=fun S=>by
  obtain⟨b5,o5,hA5,q5⟩:=(hu _ S).at hn
  cases hA5
  have p2:=rP q5 2 (by omega)
  simpa only[Unt.enc,l_o,l_p]using p2
 obtain⟨P,hP⟩:∃P,P=C8 D.ps U[n].cat:=⟨_,rfl⟩
 rw[←hP]
 refine EN i136.eq_1 fun K hK=>Wa ?_
 (revert S;(try clear F);refine AL fun g h S F=> ?_)
 have S:St h0 h (wkA L D (.slice (some ⟨b4,o4,none⟩) U.length cu) w::d9 g Pol.zero.enc 83::l):=S.p1
 have r2:∀K t,j8 (fun h'=>St h0 h' (wkA L D (.slice (some ⟨b4,o4,none⟩) U.length cu) w::d9 g Pol.zero.enc 83::l)) (fun h'=>rd1 h' (.pointer (some ⟨L.p,2,none⟩))) K t=K (.slice D.A3 D.ps.length D.c3):=fun K t=>rI (fun h' S=>by
  obtain⟨sd,M,Sc,_⟩:=S.wkCell
  exact m8 (off:=2) Sc) h S
 have r3:∀K t,j8 (fun h'=>St h0 h' (wkA L D (.slice (some ⟨b4,o4,none⟩) U.length cu) w::d9 g Pol.zero.enc 83::l)) (fun h'=>rd1 h' (.pointer (some ⟨L.p,3,none⟩))) K t=K (.slice (some ⟨b4,o4,none⟩) U.length cu):=fun K t=>rI (fun h' S=>by
  obtain⟨sd,M,Sc,_⟩:=S.wkCell
  exact m8 (off:=3) Sc) h S
 have rU:∀K t,j8 (fun h'=>St h0 h' (wkA L D (.slice (some ⟨b4,o4,none⟩) U.length cu) w::d9 g Pol.zero.enc 83::l)) (fun h'=>rd1 h' (.pointer (some ⟨b4,o4+n*4+2,none⟩))) K t=K (.int .i64 U[n].cat):=fun K t=>rI (fun h' S=>hqU S.tl.tl) h S
 refine Wa ?_
 refine cS S (fun ρ' h'=>ρ' 4= .pointer (some ⟨g,0,none⟩)∧∃q,ρ' 5= .pointer (some ⟨q,0,none⟩)∧St h0 h' (d9 q P.enc 83::wkA L D (.slice (some ⟨b4,o4,none⟩) U.length cu) w::d9 g Pol.zero.enc 83::l)) ?_ ?_
 ·intro J hJ
  refine Wd r2 r3 rU ?_
  refine⟨?_,?_⟩
  ·refine cI (a9S S (fun h' S=>(hc _ S.tl.tl).ps) U[n].cat) ?_
   clear S F r2 r3 rU
   rintro _ h ⟨S,e,rfl⟩
   rw[←hP]
   refine Wa ?_
   (revert S;(try clear F);refine AL fun q h S F=> ?_)
   refine⟨S.tl,?_⟩
   refine Wa ?_
   (revert S;(try clear F);refine ST fun h S F=> ?_)
   refine hJ _ _ ?_
   refine Wa ?_
   exact⟨q,rfl,S⟩
  ·(revert S;(try clear F);refine AL fun q h S F=> ?_)
   refine⟨S.tl,?_⟩
   refine Wa ?_
   refine cI (a9S S (fun h' S=>(hc _ S.tl.tl.tl).ps) U[n].cat) ?_
   clear S F r2 r3 rU
   rintro _ h ⟨S,e,rfl⟩
   rw[←hP]
   refine Wa ?_
   (revert S;(try clear F);refine ST fun h S F=> ?_)
   refine hJ _ _ ?_
   refine Wa ?_
   exact⟨q,rfl,S⟩
 clear S F r2 r3 rU
 rintro ρ' h ⟨e4,q,e5,S⟩
 ((try clear F);have F:=S.fx)
 refine Wd e4 e5 F ?_
 refine tS S.p2 rfl rfl (l_a rfl) ?_
 clear S F
 intro h S
 have S:St h0 h (d9 g P.enc 83::d9 q P.enc 83::wkA L D (.slice (some ⟨b4,o4,none⟩) U.length cu) w::l):=S
 ((try clear F);have F:=S.fx)
 refine Wc e4 F ?_
 exact hK _ _ ⟨rfl,S.tl.tl⟩
end
end
end Go.Proofs.YtjagmebglhbdkaaGreat.MX
