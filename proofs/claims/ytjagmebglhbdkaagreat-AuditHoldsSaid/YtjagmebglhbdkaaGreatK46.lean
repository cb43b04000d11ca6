import Derived.Test.YtjagmebglhbdkaaGreatK44
import Derived.Test.YtjagmebglhbdkaaGreatK45
import Derived.Test.YtjagmebglhbdkaaGreatK24
import Derived.Test.YtjagmebglhbdkaaGreatK29
namespace Go.Proofs.YtjagmebglhbdkaaGreat.MX
open Go Go.Proofs
set_option linter.unusedSimpArgs false
set_option linter.unusedVariables false
section
section
variable{C D:Cfg}{U:List Unt}{w:Wk}{m:Nat}
theorem a9T{i:Nat}(hi:i<w.s.R.length):w.s.R[i]=w.R i:=by unfold Wk.R;rw[l_s,l_r hi];rfl
theorem b7c{K:List KU}{n:Int}(h:0≤i5 K n):n<K.length:=by
 refine Classical.byContradiction fun hn=> ?_
 unfold i5 at h
 split at h
 ·rw[Y1 (by omega)]at h
  exact absurd h (by decide)
 ·exact absurd h (by decide)
theorem b4B{f:Ret→Int}{a b:Int}:∀{R:List Ret},(∀r∈R,a≤f r∧f r≤b)→a*R.length≤S8 f R∧S8 f R≤b*R.length
 | [],_=>by simp[S8]
 |x::R,h=>by
  have h1:=b4B (R:=R) fun r hr=>h r (by simp[hr])
  have h2:=h x (by simp)
  simp only[S8,G7,K1,l_f]at h1⊢
  have e:∀k:Int,k*((R.length+1:Nat):Int)=k*R.length+k:=fun k=>by
   rw[show((R.length+1:Nat):Int)=(R.length:Int)+1 by omega,Int.mul_add,Int.mul_one]
  rw[e,e]
  omega
theorem b4w(hD:Stc D U)(hC:Stc C U)(I:Inv C U w 1000 0)(W:w.wf U m)(hm:m≤100000):Aud D U w.s:=by
 have hrow:=b0C hC I W
 have hrl:=W.rl
 have hkl:=W.kl
 have hul:=hD.ul
 have hol:=W.ol
 refine⟨hD.cfg,hD.sh,hul,?_,hrl,fun r hr=> ?_,by omega,by omega⟩
 ·obtain⟨l1,l2,l3,l4,l5⟩:=I.led
  have hb:∀{f:Ret→Int},(∀r∈w.s.R,0≤f r∧f r≤858993459200)→0≤S8 f w.s.R∧S8 f w.s.R≤85899345920000:=fun h=>by
   have:=b4B h
   omega
  have h1:=hb (f:=U3) fun r hr=>by
   have h:=hrow r hr
   have:=h.le
   unfold U3;split<;>omega
  have h2:=hb (f:=U4) fun r hr=>by
   have h:=hrow r hr
   have:=h.le
   have:=h.told
   have:=h.pos
   unfold U4 tol;split<;>omega
  have h3:=hb (f:=Ret.paid) fun r hr=>by
   have h:=hrow r hr
   have:=h.le
   have:=h.told
   have:=h.pos
   omega
  have h4:=hb (f:=Ret.credd) fun r hr=>by
   have h:=hrow r hr
   have:=h.le
   have:=h.told
   have:=h.pos
   omega
  have h5:=hb (f:=Ret.given) fun r hr=>by
   have h:=hrow r hr
   have:=h.le
   have:=h.told
   have:=h.pos
   omega
  refine⟨?_,?_,?_,?_,?_⟩<;>unfold okL<;>omega
 ·have h:=hrow r hr
  obtain⟨a1,a2⟩:=h.le
  have a3:=h.told
  obtain⟨a4,a5,a6⟩:=h.pos
  obtain⟨i,hi,rfl⟩:=R7 hr
  have hI:=I.ret i hi
  have hRs:=I.res i hi
  rw[←a9T hi]at hI hRs
  obtain⟨b1,b2⟩:=hI.ord
  have b3:=hC.cfg.2.1
  have b4:=hI.want
  have b5:=hI.day
  have b6:=hI.st
  have b7:=hI.rea
  unfold isR at b7
  have b8:=hI.num
  have hr2:w.s.R[i].res≤199:=by
   refine Classical.byContradiction fun hn=> ?_
   have:=hRs.2 (by omega)
   have hp:=b7c (K:=w.s.K) (n:=w.s.R[i].res) (by omega)
   omega
  have hr1:=hRs.1
  refine⟨⟨?_,?_,?_,?_,?_,?_,?_,h.us,?_,?_,?_,?_⟩,fun v hv=>(h.inn v hv).1⟩<;>(try unfold a0S)<;>unfold btw<;>omega
theorem c0G(hp:D.ps=C.ps)(hC:Stc C U)(I:Inv C U w 1000 0)(W:w.wf U m):b0K D U w.s:=by
 refine⟨c2o hC I W,fun r hr=> ?_⟩
 have h:=b0C hC I W r hr
 refine⟨by rw[hp];exact h.worth,h.told,h.done,fun h6 h5=>h.none h5 h6⟩
theorem b3H(I:Inv C U w 1000 0)(W:w.wf U m):a1t U w.s:=by
 have hkl:=W.kl
 refine⟨fun i u hu h0 h3 h5=> ?_,?_,fun r hr hd j hj=> ?_⟩
 ·obtain⟨hi,rfl⟩:=List.getElem?_eq_some_iff.1 hu
  have hf:=I.flg i (by omega)
  have hp:=a0y (K:=w.s.K) (n:=i) (by omega)
  have hU:j9 U (i:Int)=U[i]:=by rw[j9,K0,l_s,l_r hi];rfl
  obtain⟨f1,f2,f3,f4⟩:=hf
  have hg:=f4 (by rw[hU];exact h0) (.inl (by omega))
  have hs:a2P w.s.K i=((w.s.K.getD i KU0).recv,(w.s.K.getD i KU0).grad):=by
   rw[a2P,if_pos (by omega),K0,l_s,l_r (by omega)];rfl
  rw[hs]
  exact⟨f3 hg,hg⟩
 ·unfold O0
  rw[List.Nodup,List.pairwise_flatMap]
  refine⟨fun r hr=> ?_,?_⟩
  ·have hr:=(List.mem_filter.1 hr).1
   have hok:=(W.rr r hr).1
   rw[List.pairwise_iff_getElem]
   intro a b ha hb hab e
   have:=b4h hok a ha b hb (by simp only[l_s,l_r ha,l_r hb,Option.getD_some];exact e)
   omega
  ·rw[List.pairwise_filter,List.pairwise_iff_getElem]
   intro a b ha hb hab h1 h2 x hx y hy e
   subst e
   have hs:∀i (hi:i<w.s.R.length),(!dcd (V1 w.s.R[i]))=true→(w.R i).state≤5:=fun i hi h=>by
    have hst:=(I.ret i hi).st
    rw[←a9T hi]at hst⊢
    refine Classical.byContradiction fun hn=> ?_
    rw[dT (show V1 w.s.R[i]from⟨by omega,by omega⟩)]at h
    exact absurd h (by decide)
   have:=I.dsj a ha b hb (by omega) (hs a ha h1) (hs b hb h2) x (by rw[←a9T ha];exact hx)
   exact this (by rw[←a9T hb];exact hy)
 ·obtain⟨i,hi,rfl⟩:=R7 hr
  have h:=I.thr i hi j (by rw[←a9T hi];exact hj)
  rw[←a9T hi]at h
  obtain⟨t1,t2,t3⟩:=h
  unfold a1X
  split
  ·exact t1 ‹_›
  split
  ·exact t2 ‹_›
  split
  ·obtain⟨t4,t5⟩:=t3 ‹_›
   split
   ·exact t4 ‹_›
   ·exact t5 (by omega)
  ·trivial
theorem b9A(I:Inv C U w 1000 0){i:Nat}(hi:i<w.s.R.length)(h6:6≤w.s.R[i].state):∀x∈w.s.O,x.rma≠(i:Int)+1:=fun x hx e=>by
 have h:=I.msg x hx
 have hk:=h.kind
 have e2:(x.rma-1).toNat=i:=by omega
 have h1:=h.k1
 have h2:=h.k2
 have h3:=h.k3
 have h4:=h.k4
 rw[e2,←a9T hi]at h1 h2 h3 h4
 have:x.kind=1∨x.kind=2∨x.kind=3∨x.kind=4:=by omega
 rcases this with k|k|k|k
 ·have:=h1 k;omega
 ·have:=(h2 k).1;omega
 ·have:=(h3 k).1;omega
 ·have:=(h4 k).1;omega
theorem b2v(I:Inv C U w 1000 0)(W:w.wf U m):a1x w.s:=fun i r hr=>by
 have hrl:=W.rl
 obtain⟨hi,rfl⟩:=List.getElem?_eq_some_iff.1 hr
 have hI:=I.ret i hi
 have hRs:=I.res i hi
 have hop:=I.op i hi
 rw[←a9T hi]at hI hRs hop
 refine⟨hI.num,fun h5=> ?_,fun hd=>⟨?_,fun h0=> ?_⟩⟩
 ·rw[hI.num]
  rcases hop h5 with h|h
  ·omega
  ·exact h
 ·rw[hI.num]
  unfold l8
  rw[List.length_eq_zero_iff,List.filter_eq_nil_iff]
  intro x hx
  have:=b9A I hi hd.1 x hx
  simp[this]
 ·have:=hRs.2 h0
  have:=hd.1
  omega
theorem b7y(I:Inv C U w 1000 0):a6F w.s↔(w.s.O.length=0∧∀r∈w.s.R,6≤r.state):=by
 constructor
 ·rintro⟨h1,h2⟩
  refine⟨?_,fun r hr=>(h1 r hr).1⟩
  refine Classical.byContradiction fun hn=> ?_
  obtain⟨x,hx⟩:=List.exists_mem_of_ne_nil _ (fun e=>hn (by rw[e];rfl):w.s.O≠[])
  have:=(I.msg x hx).kind
  have:=h2 x hx
  omega
 ·rintro⟨h1,h2⟩
  refine⟨fun r hr=>⟨h2 r hr,?_⟩,fun x hx=> ?_⟩
  ·obtain⟨i,hi,rfl⟩:=R7 hr
   have:=(I.ret i hi).st
   rw[←a9T hi]at this
   exact this.2
  ·rw[List.length_eq_zero_iff.1 h1]at hx
   exact absurd hx l_d
end
end
section
set_option maxHeartbeats 8000000
end
section
set_option maxHeartbeats 16000000
structure i0.ok(h:c9)(x:i0):Prop where
 us:Arr i6 1 h x.A x.r.us
 gs:Arr i6 1 h x.B x.r.gs
theorem c1C{D:Cfg}(hp:D.pu=c0C.pu):Aud D (l9 c0C) (C3 c0C):=by
 have hU:l9 c0C=[]:=rfl
 refine⟨b2a hp.symm c3s,?_,?_,?_,?_,?_,?_,?_⟩
 ·rw[hU];intro u hu;cases hu
 ·rw[hU];exact Nat.zero_le _
 ·exact⟨⟨by decide,by decide⟩,⟨by decide,by decide⟩,⟨by decide,by decide⟩,⟨by decide,by decide⟩,⟨by decide,by decide⟩⟩
 ·exact Nat.zero_le _
 ·intro r hr;cases hr
 ·rw[C3,hU];exact Nat.zero_le _
 ·exact Nat.lt_of_le_of_lt (Nat.zero_le 0) (by decide)
theorem a6X(h:c9):d8 Tryz.prog 30 [] h fun v h'=>v= .bool true∧Fr h h' []:=by
 have S:=St.nil h
 refine EN i30.eq_1 fun K hK=>Wa ?_
 refine cI (b4s c0C (fun h' S=>⟨Arr.nil _ _ _ _,(fun o ho=>by cases ho),Arr.nil _ _ _ _,Arr.nil _ _ _ _⟩) ⟨by decide,by decide,by decide,by decide,by decide,by decide,fun o ho=>by cases ho⟩ (by decide) (by decide) (by decide) (fun o ho=>by cases ho) S) ?_
 clear S
 rintro _ h (⟨hn,_⟩|⟨_,p,D,u,rfl,hw,hp,S⟩)
 ·exact(hn c3s).elim
 obtain⟨_,A,c,rfl,_⟩:=b0G S.p1
 have W:=c1C hp
 have e1:b0K D (l9 c0C) (C3 c0C):=⟨rfl,fun r hr=>by cases hr⟩
 have e2:a1t (l9 c0C) (C3 c0C):=by
  refine⟨?_,?_,?_⟩
  ·intro i u hu
   have hU:l9 c0C=[]:=rfl
   rw[hU]at hu
   cases i<;>cases hu
  ·simp[O0,C3]
  ·intro r hr;cases hr
 have e3:a1x (C3 c0C):=by
  intro i r hr
  simp[C3]at hr
 have e4:a6F (C3 c0C):=⟨fun r hr=>(by cases hr),fun m hm=>(by cases hm)⟩
 refine Wa ?_
 refine cI (b0R W S) ?_
 clear S
 rintro _ h ⟨rfl,S⟩
 rw[dT e1]
 refine Wa ?_
 refine cI (a6I W S) ?_
 clear S
 rintro _ h ⟨rfl,S⟩
 rw[dT e2]
 refine Wa ?_
 refine cI (a5L W S) ?_
 clear S
 rintro _ h ⟨rfl,S⟩
 rw[dT e3]
 refine Wa ?_
 refine cI (a8A W S) ?_
 clear S
 rintro _ h ⟨rfl,S⟩
 rw[dT e4]
 refine Wa ?_
 refine cI (b5K _) ?_
 rintro _ _ ⟨rfl,rfl⟩
 refine Wa ?_
 exact hK _ _ ⟨rfl,S.fr⟩
section
variable{h0 h:c9}{l:List HP}
end
end
section
set_option maxHeartbeats 16000000
theorem a8m(C:Cfg)(A:Option Addr)(c:Nat)(xs:List j0)(h0:c9)(hC:C.ok h0)(ha:Arr j0.enc 12 h0 A xs)(hl:xs.length≤c)(hcm:c≤maxLen)(hx:∀x∈xs,x.ok h0):
  d8 Tryz.prog 8 [.agg C.enc.toArray,.slice A xs.length c] h0 fun v h'=>v= .bool true∧Fr h0 h' []:=by
 have hm:maxLen=9223372036854775807:=rfl
 obtain⟨r,w⟩:=hC
 have S:=St.nil h0
 have r':∀{l:List HP} (h':c9),St h0 h' l→C.rd h':=fun h' S=>r.fr S.fr
 refine EN i8.eq_1 fun K hK=>Wa ?_
 (revert S;(try clear F);refine AL fun g h S F=> ?_)
 refine Wa ?_
 refine cF S (a6X _) fun h S=> ?_
 ((try clear F);have F:=S.fx)
 refine Wb F ?_
 refine cF S (c1o C xs 80 (by omega) (by omega) (r' _ S) w (ha.fr S.fr (by simp))) fun h S=> ?_
 by_cases hf:fewS C xs 80
 case neg=>
  rw[dF hf]
  refine Wa ?_
  refine cF S (a6X _) fun h S=> ?_
  refine Wa ?_
  exact hK _ _ ⟨rfl,S.fr⟩
 rw[dT hf]
 ((try clear F);have F:=S.fx)
 refine Wb F ?_
 obtain⟨hxl,hxu,f1,f2,f3,f4⟩:=hf
 have f4':∀o∈C.os,o.ls.length<1000000:=fun o ho=>by have:=f4 o ho;omega
 refine cI (b4s C (fun h' S=>r' h' S) w (by omega) (by omega) (by omega) f4' S) ?_
 clear S F
 rintro _ h (⟨hn,rfl,S⟩|⟨hok,p,D,u,rfl,hw,hp,S⟩)
 ·refine Wa ?_
  exact hK _ _ ⟨rfl,S.fr⟩
 obtain⟨_,Au,cu,rfl,_⟩:=b0G S.p1
 have hD:=b5D hp hok
 have hDC:=b5D (C:=C) rfl hok
 have hx3:C.enc.length=3:=rfl
 have FN:rdN h g 0 3=some C.enc:=v8 S.p2.blk (l_a rfl)
 refine Wc @FN hx3 ?_
 refine cI (b7S C (fun h' S=>r' h' S) hok hDC S) ?_
 clear S FN
 rintro _ h ⟨q,Bu,du,rfl,S⟩
 have P0:Pl C (l9 C) (C3 C) 0:=⟨c4h,c2u hDC,_,b7u⟩
 obtain⟨L,hL⟩:∃L:V3,L=⟨q,none,0⟩:=⟨_,rfl⟩
 have hq:q=L.p:=by rw[hL]
 rw[←hL]at S
 rw[hq]
 clear hL hq
 obtain⟨U,hU⟩:∃U,U=l9 C:=⟨_,rfl⟩
 rw[←hU]at S hD hDC P0
 clear hU
 have S:St h0 h (both p L C D U Au Bu cu du (C3 C)++ [d9 g C.enc 26]):=by
  show St h0 h (_::_::_::_::_::_)
  (exact PM S)
 refine Wa ?_
 refine LKp (Nat.zero_add 0) [1,5,32] (fun ρ h'=>∃(i:Nat) (L:V3) (s:Sag),ρ 33= .int .i64 i∧i≤xs.length∧ρ 7= .pointer (some ⟨L.p,0,none⟩)∧Pl C U s (i*201)∧St h0 h' (both p L C D U Au Bu cu du s++ [d9 g C.enc 26])) (fun ρ _=>xs.length-(iv (ρ 33)).toNat) ?_ ?_
 ·refine Wa ?_
  exact⟨0,L,_,rfl,by omega,rfl,by simpa using P0,S⟩
 clear S P0
 rintro ρ h J ⟨e1,e5,e32⟩ hJ ⟨i,L,s,e33,hi,e7,P,S⟩
 refine Wc e32 e33 ?_
 refine cD (fun hlt=> ?_) (fun hlt=> ?_)
 ·have hil:i<xs.length:=by omega
  have hxi:=hx _ (l_v hil)
  have hui:=hxu _ (l_v hil)
  obtain⟨b,o,rfl,q⟩:=(ha.fr S.fr (by simp)).at hil
  have hqx:∀{h':c9}{l':List HP},St h0 h' l'→rdN h' b (o+i*12) 12=some xs[i].enc:=fun S=>by
   obtain⟨b',o',e,q⟩:=(ha.fr S.fr (by simp)).at hil
   cases e
   exact q
  generalize xs[i]=x at*
  have hx12:x.enc.length=12:=rfl
  refine We e1 e5 e33 q ?_
  refine cI (b1a x (fun h' S=>hxi.us.fr S.fr (by simp)) (by omega) S) ?_
  clear S q
  rintro _ h ⟨y,rfl,hy,S⟩
  have hyi:y.c.i64:=by rw[hy];exact hxi.i64
  have S:St h0 h (B5 p D (.slice Au U.length cu) s::i4 i6 1 3 (.slice y.A y.c.us.length y.n) y.c.us::a0J D (.slice Au U.length cu) U::n9 L C (.slice Bu U.length du) ⟨s,[]⟩::i4 Unt.enc 4 74 (.slice Bu U.length du) U:: [d9 g C.enc 26]):=S.p1
  refine Wa ?_
  refine cI (c1y y (Au:=Au) (cu:=cu) (U:=U) (l:=i4 i6 1 3 (.slice y.A y.c.us.length y.n) y.c.us::a0J D (.slice Au U.length cu) U::n9 L C (.slice Bu U.length du) ⟨s,[]⟩::i4 Unt.enc 4 74 (.slice Bu U.length du) U:: [d9 g C.enc 26]) (by simp) (fun h' S=>S.arr zEl) (by rw[hy];omega) hyi hD S P.wf (by omega)) ?_
  clear S
  rintro _ h ⟨sl,rfl,S⟩
  rw[hy,c0I hp]at S
  obtain⟨hpq,P1⟩:=P.step hDC x.c
  have S:St h0 h (n9 L C (.slice Bu U.length du) ⟨s,[]⟩::B5 p D (.slice Au U.length cu) (O5 C U s x.c).2.2.2::a0J D (.slice Au U.length cu) U::i4 Unt.enc 4 74 (.slice Bu U.length du) U:: [d9 g C.enc 26]):=by
   have S:=S.tl.d1
   exact S.p2
  have qx:=hqx S
  refine We e1 e7 e33 qx ?_
  refine cI (b7W x (fun h' S=>r' h' S) (fun h' S=>S.p2.arr Unt.enc_len) (fun h' S=>hxi.us.fr S.fr (by simp)) (by omega) hDC P.inv P.keys.2 S P.wf (by omega)) ?_
  clear S qx
  rintro _ h ⟨L',s',rfl,S⟩
  rw[←hpq]at S
  have hA:=b4w hD hDC P1.inv P1.wf (by omega)
  have hS:=c0G (b5r hp).1 hDC P1.inv P1.wf
  have hP:=b3H P1.inv P1.wf
  have hR:=b2v P1.inv P1.wf
  generalize (O5 C U s x.c).2.2.2=t at*
  have S:St h0 h (B5 p D (.slice Au U.length cu) t::a0J D (.slice Au U.length cu) U::n9 L' C (.slice Bu U.length du) ⟨t,[]⟩::i4 Unt.enc 4 74 (.slice Bu U.length du) U:: [d9 g C.enc 26]):=by
   have S:=S.tl
   exact S.p2.p2
  refine Wb e5 ?_
  refine cI (b0R hA S) ?_
  clear S
  rintro _ h ⟨rfl,S⟩
  rw[dT hS]
  refine Wb e5 ?_
  refine cI (a6I hA S) ?_
  clear S
  rintro _ h ⟨rfl,S⟩
  rw[dT hP]
  refine Wb e5 ?_
  refine cI (a5L hA S) ?_
  clear S
  rintro _ h ⟨rfl,S⟩
  rw[dT hR]
  refine Wb e33 ?_
  refine hJ _ _ ?_ ?_
  ·refine Wa ?_
   exact⟨i+1,L',_,rfl,by omega,rfl,by rw[Nat.succ_mul];exact P1,S⟩
  ·refine Wb e33 ?_
   omega
 obtain rfl:i=xs.length:=by omega
 have hA:=b4w hD hDC P.inv P.wf (by omega)
 have hst:=b7y P.inv
 have hrl:=P.wf.rl
 simp only at hA hst hrl
 have S:St h0 h (B5 p D (.slice Au U.length cu) s::a0J D (.slice Au U.length cu) U::n9 L C (.slice Bu U.length du) ⟨s,[]⟩::i4 Unt.enc 4 74 (.slice Bu U.length du) U:: [d9 g C.enc 26]):=S
 have hO:∃A c,rd1 h (.pointer (some ⟨L.p,12,none⟩))=some (.slice A s.O.length c):=by
  obtain⟨k,t,o,sd,vs,hv,S⟩:=St.mo.1 S.p2
  obtain⟨A,c,rfl⟩:=(St.p3 S).sl
  exact⟨A,c,S.moF 12⟩
 obtain⟨Ao,co,FO⟩:=hO
 have FR:=S.p2.mrR
 simp only at FR
 refine Wd e7 @FO @FR ?_
 refine LKp (Pd e1 e5 e7) [5,7,78] (fun ρ h'=>∃i:Nat,ρ 79= .int .i64 i∧i≤s.R.length∧ρ 9= .bool (dcd (s.O.length=0∧∀r∈s.R.take i,6≤r.state))∧h'=h) (fun ρ _=>s.R.length-(iv (ρ 79)).toNat) ?_ ?_
 ·refine Wa ?_
  refine⟨0,rfl,by omega,?_⟩
  congr 2
  simp
 rintro ρ' h' J ⟨e5,e7,e78⟩ hJ ⟨i,e79,hi,e9,rfl⟩
 refine Wc e78 e79 ?_
 refine cD (fun hlt=> ?_) (fun hlt=> ?_)
 ·have hil:i<s.R.length:=by omega
  obtain⟨br,hAr⟩:∃b,L.A=some ⟨b,0,none⟩:=by
   obtain⟨k,t,o,sd,vs,hv,S⟩:=St.mo.1 S.p2
   exact(St.p4 S).ownAt (by rw[←l_z (f:=i0.r),hv];show 0<s.R.length;omega)
  have q6:rd1 h' (.pointer (some ⟨br,i*14+6,none⟩))=some (.int .i64 s.R[i].state):=by
   have:=S.p2.mrRet hAr (show i<(⟨s,[]⟩:Wk).s.R.length from hil) (j:=6) (by omega) (by omega)
   rw[show Wk.R ⟨s,[]⟩ i=s.R[i] by unfold Wk.R;rw[l_s,l_r hil];rfl]at this
   exact this
  rw[hAr]at FR
  have hsn:(∀r∈s.R.take (i+1),6≤r.state)↔(∀r∈s.R.take i,6≤r.state)∧6≤s.R[i].state:=by
   rw[l_t hil]
   constructor
   ·exact fun h=>⟨fun r hr=>h r (Y0 _ hr),h _ (a2l _ (List.mem_singleton.2 rfl))⟩
   ·rintro⟨h1,h2⟩ r hr
    rcases List.mem_append.1 hr with hr|hr
    ·exact h1 r hr
    ·rw[List.mem_singleton.1 hr];exact h2
  by_cases d:s.O.length=0∧∀r∈s.R.take i,6≤r.state
  ·rw[dT d]at e9
   refine Wf e7 e9 e79 @FR q6 ?_
   refine hJ _ _ ?_ ?_
   ·refine Wa ?_
    exact⟨i+1,rfl,by omega,by congr 2;rw[hsn];simp only[d.1,true_and,eq_iff_iff];exact⟨fun h=>⟨d.2,h⟩,fun h=>h.2⟩⟩
   ·refine Wb e79 ?_
    omega
  ·rw[dF d]at e9
   refine Wf e7 e9 e79 @FR q6 ?_
   refine hJ _ _ ?_ ?_
   ·refine Wa ?_
    exact⟨i+1,rfl,by omega,by rw[dF];rintro⟨h1,h2⟩;exact d ⟨h1,(hsn.1 h2).1⟩⟩
   ·refine Wb e79 ?_
    omega
 obtain rfl:i=s.R.length:=by omega
 rw[C9]at e9
 refine Wb e5 ?_
 refine cI (a8A hA S) ?_
 clear S FR FO
 rintro _ h ⟨rfl,S⟩
 have he:dcd (a6F s)=dcd (s.O.length=0∧∀r∈s.R,6≤r.state):=by congr 1;exact propext hst
 rw[he]
 refine Wb e9 ?_
 refine hK _ _ ⟨?_,S.fr⟩
 simp
end
end Go.Proofs.YtjagmebglhbdkaaGreat.MX
