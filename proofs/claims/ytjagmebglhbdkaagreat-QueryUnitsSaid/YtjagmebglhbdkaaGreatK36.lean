import Derived.Test.YtjagmebglhbdkaaGreatK31
import Derived.Test.YtjagmebglhbdkaaGreatK35
namespace Go.Proofs.YtjagmebglhbdkaaGreat.MX
open Go Go.Proofs
set_option linter.unusedSimpArgs false
set_option linter.unusedVariables false
section
set_option maxHeartbeats 8000000
theorem c2Q{w:Wk}{i:Nat}(hi:i<w.s.R.length){p:Ret→Prop}(h1:∀r∈w.s.R.take i,p r)(h2:p (w.R i)):∀r∈w.s.R.take (i+1),p r:=fun r hr=>by
 rw[l_t hi]at hr
 rcases List.mem_append.1 hr with hr|hr
 ·exact h1 r hr
 ·rw[T9]at hr
  rw[hr]
  have:w.R i=w.s.R[i]:=by unfold Wk.R;rw[l_s,l_r hi];rfl
  rwa[this]at h2
section
variable{h0 h:c9}{l:List HP}{L:U1}{C:Cfg}{u:Value}{w:Wk}{U:List Unt}{m n b i:Nat}
theorem a6n(un:Int)(S:St h0 h (m9 L C u w::l))(W:w.wf U m)(hst:∀r∈w.s.R,1≤r.state∧r.state≤9):d8 Tryz.prog 27 [.pointer (some ⟨L.p,0,none⟩),.int .i64 un] h fun v h'=>v= .int .i64 (G8 w.s un)∧h'=h:=by
 have hrl:=W.rl
 obtain⟨pd,hpd⟩:∃pd:Ret→Bool,pd=fun r=> !decide (6≤r.state∧r.state≤9)&&r.us.contains un:=⟨_,rfl⟩
 have hh:G8 w.s un=((w.s.R.find? pd).map Ret.num).getD 0:=by rw[hpd];rfl
 rw[hh]
 obtain⟨k,t,o,sd,vs,hv,S1⟩:=St.mo.1 S
 have F:=S1.moF
 have hOw:=St.p4 S1
 have hlv:vs.length=w.s.R.length:=by rw[←hv,l_z]
 refine EN i27.eq_1 fun K hK=> ?_
 refine Wc F @x6.eq_1 ?_
 refine LKp (Nat.zero_add 0) [0,1,11] (fun ρ h'=>∃i:Nat,ρ 12= .int .i64 i∧i≤w.s.R.length∧(∀r∈w.s.R.take i,pd r=false)∧h'=h) (fun ρ _=>w.s.R.length-(iv (ρ 12)).toNat) ?_ ?_
 ·refine Wa ?_
  exact⟨0,rfl,by omega,by simp⟩
 rintro ρ h J ⟨e0,e1,e11⟩ hJ ⟨i,e12,hi,hno,rfl⟩
 refine Wc e11 e12 ?_
 refine cD (fun hlt=> ?_) (fun hlt=> ?_)
 ·have hil:i<w.s.R.length:=by omega
  obtain⟨b,hA⟩:=hOw.ownAt (by omega)
  obtain⟨x,hx,hrd,_,hus,_⟩:=S.moRet hA hil
  have hWl:=W.len _ (C5 hil)
  have hs:=hst _ (C5 hil)
  have q0:=hrd 0 (by omega)
  have q6:=hrd 6 (by omega)
  have q8:=hrd 8 (by omega)
  simp only[f9.enc,l_o,l_p,hx,H8]at q0 q6 q8
  rw[hx]at hus
  have hfind:pd (w.R i)=true→w.s.R.find? pd=some (w.R i):=fun hp=>by
   have e:w.R i=w.s.R[i]:=by unfold Wk.R;rw[l_s,l_r hil];rfl
   rw[e]
   exact a4f hil hno (by rw[←e];exact hp)
  have hsn:pd (w.R i)=false→∀r∈w.s.R.take (i+1),pd r=false:=fun h=>c2Q hil hno h
  generalize w.R i=r at*
  rw[hA]at F
  refine Wf e0 e12 F @x6.eq_1 q8 ?_
  refine LKp (Pe e0 e1 e11 e12) [0,1,5,11,12,23] (fun ρ h'=>∃j:Nat,ρ 24= .int .i64 j∧j≤r.us.length∧(r.state<6→∀j',j'<j→r.us.getD j' 0≠un)∧h'=h) (fun ρ _=>r.us.length-(iv (ρ 24)).toNat) ?_ ?_
  ·refine Wa ?_
   exact⟨0,rfl,by omega,fun _ j' h=>absurd h (by omega)⟩
  ·have p12:=e12
   clear e0 e1 e11 e12
   rintro ρ h J2 ⟨e0,e1,e5,e11,e12,e23⟩ hJ2 ⟨j,e24,hj,hne,rfl⟩
   refine Wc e23 e24 ?_
   refine cD (fun hlt2=> ?_) (fun hlt2=> ?_)
   ·have hjl:j<r.us.length:=by omega
    obtain⟨b1,o1,hA1,q1⟩:=hus.at hjl
    have q1:=rP0 q1 (by omega)
    simp only[i4,l_o,l9]at q1
    rw[←l5]at q1
    rw[hA1]at q8
    by_cases d6:r.state<6
    ·by_cases d:r.us.getD j 0=un
     ·refine Wi e0 e1 e5 e24 F @x6.eq_1 q0 (Pf q6 q8 q1 d6 (Pc d @l9)) ?_
      refine hK _ _ ⟨?_,rfl⟩
      rw[hfind]
      ·rfl
      ·have hm:un∈r.us:=by rw[←d,l5 hjl];exact l_v hjl
       rw[hpd]
       simp only[a1B,Bool.not_eq_true',decide_eq_false_iff_not]
       exact⟨by omega,by simpa using hm⟩
     ·refine Wi e0 e1 e5 e24 F @x6.eq_1 q6 (Pf q8 q1 d6 d @l9) ?_
      refine hJ2 _ _ ?_ ?_
      ·refine Wa ?_
       refine⟨j+1,rfl,by omega,fun _ j' hj'=> ?_⟩
       by_cases e:j'=j
       ·rw[e];exact d
       ·exact hne d6 j' (by omega)
      ·refine Wb e24 ?_
       omega
    ·refine Wi e0 e1 e5 e24 F @x6.eq_1 q6 d6 ?_
     refine hJ2 _ _ ?_ ?_
     ·refine Wa ?_
      exact⟨j+1,rfl,by omega,fun h=>absurd h d6⟩
     ·refine Wb e24 ?_
      omega
   obtain rfl:j=r.us.length:=by omega
   refine Wb e12 ?_
   refine hJ _ _ ?_ ?_
   ·refine Wa ?_
    refine⟨i+1,rfl,by omega,hsn ?_⟩
    rw[hpd]
    simp only[Bool.and_eq_false_iff,Bool.not_eq_false',decide_eq_true_eq]
    by_cases d6:r.state<6
    ·refine .inr ?_
     rw[List.contains_eq_mem,decide_eq_false_iff_not]
     intro hm
     obtain⟨j',hj',e⟩:=U9 hm
     exact hne d6 j' hj' (by rw[l5 hj',e])
    ·exact .inl (by omega)
   ·refine Wc e12 p12 ?_
    omega
 obtain rfl:i=w.s.R.length:=by omega
 rw[D4]at hno
 refine Wa ?_
 exact hK _ _ ⟨by rw[a6S hno];rfl,rfl⟩
theorem a2A(S:St h0 h (m9 L C u w::l))(W:w.wf U m)(hU:U.length≤200)(hA:L.A=some ⟨b,0,none⟩)(hi:i<w.s.R.length):d8 Tryz.prog 166 [.pointer (some ⟨L.p,0,none⟩),.pointer (some ⟨b,i*14,none⟩)] h fun v h'=>v= .tuple #[]∧St h0 h' (m9 L C u (j2 w i)::l):=by
 obtain⟨x,hx,hrd,-,-,-⟩:=S.moRet hA hi
 have q4:=hrd 4 (by omega)
 simp only[f9.enc,l_o,l_p,hx]at q4
 by_cases h1:0≤(w.R i).res
 case neg=>
  have e:j2 w i=w:=if_neg h1
  rw[e]
  refine EN i166.eq_1 fun K hK=> ?_
  refine Wb q4 ?_
  exact hK _ _ ⟨rfl,S⟩
 have e:j2 w i=(w.mv (w.R i).res 3).put i {w.R i with res:= -1}:=if_pos h1
 rw[e]
 have hkl:=W.kl
 refine EN i166.eq_1 fun K hK=> ?_
 refine Wb q4 ?_
 refine cV (P8 (w.R i).res 3 S (by omega)) ?_
 clear S hrd q4
 intro h S
 refine Wa ?_
 refine L4 (r':={w.R i with res:= -1}) S hA hi (j:=4) (by omega) rfl rfl rfl (fun x hx=>by rw[f9.enc,f9.enc,hx];rfl) ?_
 clear S
 intro h S
 refine Wa ?_
 exact hK _ _ ⟨rfl,S⟩
theorem c2H(w:Wk)(i:Nat):(j2 w i).R i=w.R i∨(j2 w i).R i={w.R i with res:= -1}:=by
 unfold j2
 split
 ·by_cases hi:i<w.s.R.length
  ·exact .inr (D7 (w:=w.mv (w.R i).res 3) hi)
  ·refine .inl ?_
   unfold Wk.R Wk.put
   rw[l_s,a0l (by simp[Wk.mv];omega)]
   rw[l_s,a0l (by omega)]
 ·exact .inl rfl
theorem b5N{O:List Msg}{num:Int}{i:Nat}(hi:i<O.length):dropL (O.take (i+1)) num=dropL (O.take i) num++if O[i].rma=num∧O[i].kind=1 then []else [O[i]]:=by
 rw[l_t hi]
 unfold dropL
 rw[List.filter_append]
 congr 1
 by_cases h:O[i].rma=num∧O[i].kind=1
 ·rw[if_pos h,List.filter_cons,if_neg (by simp[h])];rfl
 ·rw[if_neg h,List.filter_cons,if_pos (by simpa only[Bool.not_eq_true',decide_eq_false_iff_not]using h)];rfl
theorem a4b(st:Int)(S:St h0 h (m9 L C u w::l))(W:w.wf U m)(hU:U.length≤200)(hm:m<500000)(hA:L.A=some ⟨b,0,none⟩)(hi:i<w.s.R.length)(hnum:(w.R i).num=i+1):d8 Tryz.prog 100 [.pointer (some ⟨L.p,0,none⟩),.pointer (some ⟨b,i*14,none⟩),.int .i64 st] h fun v h'=>v= .tuple #[]∧St h0 h' (m9 L C u (M8 w i st)::l):=by
 have hdef:M8 w i st={j2 (w.put i {w.R i with state:=st}) i with s:={(j2 (w.put i {w.R i with state:=st}) i).s with T:=without (j2 (w.put i {w.R i with state:=st}) i).s.T (i+1),O:=dropL (j2 (w.put i {w.R i with state:=st}) i).s.O (i+1)} }:=rfl
 rw[hdef]
 clear hdef
 refine EN i100.eq_1 fun K hK=> ?_
 refine Wa ?_
 refine L4 (r':={w.R i with state:=st}) S hA hi (j:=6) (by omega) rfl rfl rfl (fun x hx=>by rw[f9.enc,f9.enc,hx];rfl) ?_
 clear S
 intro h S
 have W1:(w.put i {w.R i with state:=st}).wf U m:=W.putR hi rfl rfl
 have hR1:((w.put i {w.R i with state:=st}).R i).num=i+1:=by rw[D7 hi];exact hnum
 have hi1:i<(w.put i {w.R i with state:=st}).s.R.length:=by rw[n8];exact hi
 generalize w.put i {w.R i with state:=st}=w1 at*
 clear hnum hi W
 refine Wa ?_
 refine cV (a2A S W1 hU hA hi1) ?_
 clear S
 intro h S
 have W2:(j2 w1 i).wf U m:=W1.release hi1
 have hR2:((j2 w1 i).R i).num=i+1:=by rcases c2H w1 i with e|e<;>rw[e]<;>exact hR1
 have hi2:i<(j2 w1 i).s.R.length:=by rw[C6];exact hi1
 generalize j2 w1 i=w2 at*
 clear hR1 hi1 W1
 obtain⟨x,hx,hrd,-,-,-⟩:=S.moRet hA hi2
 have q0:=hrd 0 (by omega)
 simp only[f9.enc,l_o,l_p,hx,hR2,H8]at q0
 refine Wb q0 ?_
 have htl:=W2.tl
 refine cV (a2E ((i:Int)+1) S (by omega)) ?_
 clear S hrd q0 hx x
 intro h S
 have hol:(R6 w2 (i+1)).s.O.length<1000000:=by have:=W2.ol;show w2.s.O.length<_;omega
 have hR3:((R6 w2 (i+1)).R i).num=i+1:=hR2
 have hi3:i<(R6 w2 (i+1)).s.R.length:=hi2
 have hK:∀v h',v= .tuple #[]∧St h0 h' (m9 L C u {R6 w2 (i+1)with s:={(R6 w2 (i+1)).s with O:=dropL (R6 w2 (i+1)).s.O (i+1)} }::l)→K v h':=hK
 generalize R6 w2 (i+1)=w3 at*
 clear hR2 hi2 W2 htl
 obtain⟨k,t,o,sd,vs,hv,S⟩:=St.mo.1 S
 obtain⟨Ao,co,rfl⟩:=(St.p3 S).sl
 have F:=S.moF
 refine Wc F @x6.eq_1 ?_
 refine LKp (Nat.zero_add 0) [0,1,25] (fun ρ h'=>∃(j:Nat) (s6:Value),ρ 26= .int .i64 j∧j≤w3.s.O.length∧ρ 6=s6∧St h0 h' (f8 Msg.enc 6 127 s6 (dropL (w3.s.O.take j) (i+1))::moL L C u w3 k t (.slice Ao w3.s.O.length co) sd vs l)) (fun ρ _=>w3.s.O.length-(iv (ρ 26)).toNat) ?_ ?_
 ·refine Wa ?_
  exact⟨0,_,rfl,by omega,rfl,S.nilS⟩
 clear S F
 rintro ρ h J ⟨e0,e1,e25⟩ hJ ⟨j,s6,e26,hj,e6,S⟩
 have F:=S.tl.moF
 obtain⟨A6,c6,rfl⟩:=S.sl
 refine Wc e25 e26 ?_
 refine cD (fun hlt=> ?_) (fun hlt=> ?_)
 ·have hjl:j<w3.s.O.length:=by omega
  have S3:=S.tl.p3
  obtain⟨bo,rfl⟩:=S3.ownAt (by omega)
  have hp:=t7 enc_len S3 (i:=j) (j:=1) hjl (by omega)
  have hq:=t7 enc_len S3 (i:=j) (j:=2) hjl (by omega)
  obtain⟨b',o',e,q⟩:=(S3.arr enc_len).at hjl
  cases e
  rw[Nat.zero_add]at q
  obtain⟨x,hx,hrd,-,-,-⟩:=(St.mo.2 ⟨k,t,_,sd,vs,hv,S.tl⟩:St h0 h (m9 L C u w3::l)).moRet hA hi3
  have q0:=hrd 0 (by omega)
  simp only[f9.enc,l_o,l_p,hx,hR3,H8]at q0
  clear hrd hx x S3
  have hs:=b5N (num:=(i:Int)+1) hjl
  have hwl:(dropL (w3.s.O.take j) (i+1)).length≤j:=by
   have:=List.length_filter_le (fun m:Msg=> !decide (m.rma=(i:Int)+1∧m.kind=1)) (w3.s.O.take j)
   rw[v8]at this
   unfold dropL
   omega
  have hgo:∀(v:Value) (x:Msg) (ρ':Env) (h:c9),x=w3.s.O[j]→St h0 h (f8 Msg.enc 6 127 v (dropL (w3.s.O.take j) (i+1)++ [x])::moL L C u w3 k t (.slice (some ⟨bo,0,none⟩) w3.s.O.length co) sd vs l)→¬(x.rma=(i:Int)+1∧x.kind=1)→St h0 h (f8 Msg.enc 6 127 v (dropL (w3.s.O.take (j+1)) (i+1))::moL L C u w3 k t (.slice (some ⟨bo,0,none⟩) w3.s.O.length co) sd vs l):=fun v x ρ' h hx S hn=>by
   subst hx
   rw[hs,if_neg hn]
   exact S
  obtain⟨x,hx⟩:∃x,x=w3.s.O[j]:=⟨_,rfl⟩
  rw[←hx]at hp hq q hs
  simp only[Msg.enc,l_o,l_p]at hp hq
  have hx6:x.enc.length=6:=rfl
  by_cases d1:x.rma=(i:Int)+1
  ·by_cases d2:x.kind=1
   ·rw[if_pos ⟨d1,d2⟩,D6]at hs
    refine Wa ?_
    refine dE ?_
    refine Wi e0 e1 e26 F @x6.eq_1 hp hq (Pd q0 d1 d2) ?_
    refine hJ _ _ ?_ ?_
    ·refine Wb e6 ?_
     exact⟨j+1,_,rfl,by omega,rfl,by rw[hs];exact S⟩
    ·refine Wb e26 ?_
     omega
   ·refine Wa ?_
    refine dE ?_
    refine Wi e0 e1 e6 e26 F @x6.eq_1 hp (Pf hq q0 d1 d2 (Pc q hx6)) ?_
    refine tA S ?_
    clear S F hp hq q q0
    intro g h S
    refine Wa ?_
    refine tA1 (bytes:=48) (x:=x) (xs:=dropL (w3.s.O.take j) (i+1)) enc_len (by omega) enc_plain rfl rfl S (by omega) (by omega) ?_
    clear S
    intro v h S
    refine Wb e26 ?_
    refine hJ _ _ ?_ ?_
    ·refine Wa ?_
     exact⟨j+1,_,rfl,by omega,rfl,hgo v x ρ h hx S fun h=>d2 h.2⟩
    ·refine Wb e26 ?_
     omega
  ·refine Wa ?_
   refine dE ?_
   refine Wi e0 e1 e6 e26 F @x6.eq_1 hp (Pf hq q0 d1 q hx6) ?_
   refine tA S ?_
   clear S F hp hq q q0
   intro g h S
   refine Wa ?_
   refine tA1 (bytes:=48) (x:=x) (xs:=dropL (w3.s.O.take j) (i+1)) enc_len (by omega) enc_plain rfl rfl S (by omega) (by omega) ?_
   clear S
   intro v h S
   refine Wb e26 ?_
   refine hJ _ _ ?_ ?_
   ·refine Wa ?_
    exact⟨j+1,_,rfl,by omega,rfl,hgo v x ρ h hx S fun h=>d1 h.1⟩
   ·refine Wb e26 ?_
    omega
 obtain rfl:j=w3.s.O.length:=by omega
 simp only[D4]at S e6
 refine Wc e0 e6 ?_
 refine b3r hv S ?_
 clear S F
 intro h S
 refine Wa ?_
 exact hK _ _ ⟨rfl,S⟩
end
end
section
set_option maxHeartbeats 8000000
theorem b2o(w:Wk)(i j:Nat)(r:Ret):(w.put i r).R j=r∨(w.put i r).R j=w.R j:=by
 by_cases hj:j=i
 ·subst hj
  by_cases hi:j<w.s.R.length
  ·exact .inl (D7 hi)
  ·refine .inr ?_
   unfold Wk.R Wk.put
   rw[l_s,l_s,a0l (by simp;omega),a0l (by omega)]
 ·refine .inr ?_
  unfold Wk.R Wk.put
  rw[l_s,l_s,List.getElem?_set_ne (fun e=>hj e.symm)]
section
variable{w:Wk}{n m i:Nat}
theorem c3s(h:n≤m):lim n≤lim m:=by unfold lim;omega
theorem Bnd.up(B:Bnd n w)(h:n≤m):Bnd m w:=by
 have:=c3s h
 exact⟨fun k=>by have:=B.led k;omega,fun k=>by have:=B.pd k;omega,fun k=>by have:=B.cd k;omega,fun k=>by have:=B.gv k;omega⟩
theorem Bnd.put(B:Bnd n w){r:Ret}(h1: -lim n≤r.paid∧r.paid≤lim n)(h2: -lim n≤r.credd∧r.credd≤lim n)(h3: -lim n≤r.given∧r.given≤lim n):Bnd n (w.put i r):=
 ⟨B.led,fun k=>by rcases b2o w i k r with e|e<;>rw[e]<;>first|exact h1|exact B.pd k,fun k=>by rcases b2o w i k r with e|e<;>rw[e]<;>first|exact h2|exact B.cd k,fun k=>by rcases b2o w i k r with e|e<;>rw[e]<;>first|exact h3|exact B.gv k⟩
theorem Bnd.putR(B:Bnd n w){r:Ret}(h1:r.paid=(w.R i).paid)(h2:r.credd=(w.R i).credd)(h3:r.given=(w.R i).given):Bnd n (w.put i r):=B.put (by rw[h1];exact B.pd i) (by rw[h2];exact B.cd i) (by rw[h3];exact B.gv i)
theorem Bnd.mv(B:Bnd n w)(k to:Int):Bnd n (w.mv k to):=⟨B.led,B.pd,B.cd,B.gv⟩
theorem Bnd.say(B:Bnd n w)(k a v:Int):Bnd n (I4 w k a v):=⟨B.led,B.pd,B.cd,B.gv⟩
theorem Bnd.rel(B:Bnd n w):Bnd n (j2 w i):=by
 unfold j2
 split
 ·exact(B.mv _ _).putR rfl rfl rfl
 ·exact B
theorem Bnd.post(B:Bnd n w){x y s:Int}(hab:x=0∧y=1∨x=1∧y=2∨x=1∧y=3∨x=1∧y=4)(hs:0≤s∧s≤2199023255552):Bnd (n+1) (w.led (K0 w.s.led x y s)):=by
 have hl:=a7f n
 refine⟨fun k=> ?_,(B.up (Nat.le_succ n)).pd,(B.up (Nat.le_succ n)).cd,(B.up (Nat.le_succ n)).gv⟩
 have b0: -lim n≤w.s.led.a∧w.s.led.a≤lim n:=B.led 0
 have b1: -lim n≤w.s.led.b∧w.s.led.b≤lim n:=B.led 1
 have b2: -lim n≤w.s.led.c∧w.s.led.c≤lim n:=B.led 2
 have b3: -lim n≤w.s.led.d∧w.s.led.d≤lim n:=B.led 3
 have b4: -lim n≤w.s.led.e∧w.s.led.e≤lim n:=B.led 4
 show-lim (n+1)≤(K0 w.s.led x y s).get k∧(K0 w.s.led x y s).get k≤lim (n+1)
 rw[hl]
 rcases hab with⟨rfl,rfl⟩|⟨rfl,rfl⟩|⟨rfl,rfl⟩|⟨rfl,rfl⟩<;>(simp only[K0,Led.put,Led.get,Int.reduceEq,if_false,if_true];(repeat' split)<;>omega)
end
section
variable{h0 h:c9}{l:List HP}{L:U1}{C:Cfg}{u:Value}{w:Wk}{U:List Unt}{m n b i:Nat}{Au:Option Addr}{cu:Nat}
theorem a6K(s:Int)(S:St h0 h (m9 L C u w::l))(B:Bnd n w)(hn:n≤1000)(hs:0≤s∧s≤2199023255552)(hA:L.A=some ⟨b,0,none⟩)(hi:i<w.s.R.length):d8 Tryz.prog 165 [.pointer (some ⟨L.p,0,none⟩),.pointer (some ⟨b,i*14,none⟩),.int .i64 s] h fun v h'=>v= .tuple #[]∧St h0 h' (m9 L C u (G1 w i s)::l):=by
 obtain⟨x,hx,hrd,-,-,-⟩:=S.moRet hA hi
 have q:=hrd 12 (by omega)
 simp only[f9.enc,l_o,l_p,hx]at q
 have hl:=b2Q (show n≤100000 by omega)
 have hc:=B.cd i
 refine EN i165.eq_1 fun K hK=> ?_
 refine Wb q ?_
 clear hrd hx x q
 refine L4 (r':={w.R i with credd:=(w.R i).credd+s}) S hA hi (j:=12) (by omega) rfl rfl rfl (fun x hx=>by rw[f9.enc,f9.enc,hx];rfl) ?_
 clear S
 intro h S
 have hl1:=a7f n
 have B1:Bnd (n+1) (w.put i {w.R i with credd:=(w.R i).credd+s}):=(B.up (Nat.le_succ n)).put ((B.up (Nat.le_succ n)).pd i) ⟨by show-lim (n+1)≤(w.R i).credd+s;omega,by show(w.R i).credd+s≤lim (n+1);omega⟩ ((B.up (Nat.le_succ n)).gv i)
 refine Wa ?_
 refine cV (a4v 1 3 s (.inr (.inr (.inl ⟨rfl,rfl⟩))) S B1 (by omega) hs) ?_
 clear S
 intro h S
 refine Wa ?_
 exact hK _ _ ⟨rfl,S⟩
theorem a6f(s:Int)(S:St h0 h (m9 L C u w::l))(W:w.wf U m)(hm:m<500000)(B:Bnd n w)(hn:n≤1000)(hs:0≤s∧s≤2199023255552)(hA:L.A=some ⟨b,0,none⟩)(hi:i<w.s.R.length):d8 Tryz.prog 167 [.pointer (some ⟨L.p,0,none⟩),.pointer (some ⟨b,i*14,none⟩),.int .i64 s] h fun v h'=>v= .tuple #[]∧St h0 h' (m9 L C u (N8 w i s)::l):=by
 obtain⟨x,hx,hrd,-,-,-⟩:=S.moRet hA hi
 have q:=hrd 5 (by omega)
 have q0:=hrd 0 (by omega)
 simp only[f9.enc,l_o,l_p,hx,H8]at q q0
 have hd:N8 w i s=if s=0 then w else if(w.R i).cred=true then G1 w i s else I4 w 2 (w.R i).num s:=rfl
 rw[hd]
 by_cases d0:s=0
 ·rw[if_pos d0]
  refine EN i167.eq_1 fun K hK=> ?_
  refine Wb d0 ?_
  exact hK _ _ ⟨rfl,S⟩
 rw[if_neg d0]
 have d1:0<s:=by omega
 clear hx hrd
 by_cases d2:(w.R i).cred=true
 ·rw[if_pos d2]
  rw[d2]at q
  refine EN i167.eq_1 fun K hK=> ?_
  refine Wc d1 q ?_
  refine cV (a6K s S B (by omega) hs hA hi) ?_
  clear S q q0
  intro h S
  have hi1:i<(G1 w i s).s.R.length:=by show i<(w.put i _).s.R.length;rw[n8];exact hi
  obtain⟨x,hx,hrd,-,-,-⟩:=S.moRet hA hi1
  have q:=hrd 5 (by omega)
  have hc:((G1 w i s).R i).cred=true:=by
   show((w.put i {w.R i with credd:=(w.R i).credd+s}).R i).cred=true
   rw[D7 hi]
   exact d2
  simp only[f9.enc,l_o,l_p,hx,hc]at q
  refine Wc d1 q ?_
  exact hK _ _ ⟨rfl,S⟩
 ·rw[if_neg d2]
  have d2:(w.R i).cred=false:=by simpa using d2
  rw[d2]at q
  refine EN i167.eq_1 fun K hK=> ?_
  refine Wd d1 q q0 ?_
  refine cV (a6i 2 (w.R i).num s S W (by omega)) ?_
  clear S q q0
  intro h S
  refine Wa ?_
  exact hK _ _ ⟨rfl,S⟩
theorem a6g{s:Int}(W:w.wf U m)(hi:i<w.s.R.length):(N8 w i s).wf U (m+1)∧(N8 w i s).s.R.length=w.s.R.length:=by
 unfold N8
 split
 ·exact⟨W.up (Nat.le_succ m),rfl⟩
 ·split
  ·exact⟨((W.putR (r:={w.R i with credd:=(w.R i).credd+s}) hi rfl rfl).led _).up (Nat.le_succ m),n8⟩
  ·exact⟨W.say _ _ _,rfl⟩
theorem J8(S:St h0 h (m9 L C u w::l))(W:w.wf U m)(hm:m<500000)(hA:L.A=some ⟨b,0,none⟩)(hi:i<w.s.R.length):d8 Tryz.prog 168 [.pointer (some ⟨L.p,0,none⟩),.pointer (some ⟨b,i*14,none⟩)] h fun v h'=>v= .tuple #[]∧St h0 h' (m9 L C u (y8 w i)::l):=by
 obtain⟨x,hx,hrd,-,-,-⟩:=S.moRet hA hi
 have q:=hrd 6 (by omega)
 have q0:=hrd 0 (by omega)
 simp only[f9.enc,l_o,l_p,hx,H8]at q q0
 clear hx hrd
 have hd:y8 w i=if(w.R i).state=5∧n6 (w.R i).num w.s.O=0 then w.put i {w.R i with state:=6}else w:=rfl
 have hol:=W.ol
 rw[hd]
 by_cases d1:(w.R i).state=5
 case neg=>
  rw[if_neg (fun h=>d1 h.1)]
  refine EN i168.eq_1 fun K hK=> ?_
  refine Wc q d1 ?_
  exact hK _ _ ⟨rfl,S⟩
 refine EN i168.eq_1 fun K hK=> ?_
 refine Wd q d1 q0 ?_
 refine cI (b5r (w.R i).num S (by omega)) ?_
 rintro _ _ ⟨rfl,rfl⟩
 by_cases d2:n6 (w.R i).num w.s.O=0
 ·rw[if_pos ⟨d1,d2⟩]at hK
  refine Wb d2 ?_
  refine L4 (r':={w.R i with state:=6}) S hA hi (j:=6) (by omega) rfl rfl rfl (fun x hx=>by rw[f9.enc,f9.enc,hx];rfl) ?_
  clear S q q0
  intro h S
  refine Wa ?_
  exact hK _ _ ⟨rfl,S⟩
 ·rw[if_neg (fun h=>d2 h.2)]at hK
  (try simp(disch:=first|omega|assumption|exact l_a rfl) only[go_sem,↓wBk,simprocAttr,show ¬(n6 (w.R i).num w.s.O:Int)=0 by omega])
  exact hK _ _ ⟨rfl,S⟩
theorem a7E(hc:∀h',St h0 h' l→C.rd h')(hD:Stc C U)(S:St h0 h (m9 L C u w::l))(W:w.wf U m)(hm:m<400000)(B:Bnd n w)(hn:n≤100)(hw:0≤(w.R i).worth∧(w.R i).worth≤2199023255552)(hA:L.A=some ⟨b,0,none⟩)(hi:i<w.s.R.length):
  d8 Tryz.prog 162 [.pointer (some ⟨L.p,0,none⟩),.pointer (some ⟨b,i*14,none⟩)] h fun v h'=>v= .tuple #[]∧St h0 h' (m9 L C u (M6 C.ss w i)::l):=by
 have hul:=hD.ul
 have hss:=hD.cfg.len.2.1
 have hd:M6 C.ss w i=a1S C.ss ((w.put i {w.R i with state:=5}).led (K0 w.s.led 0 1 (w.R i).worth)) i:=rfl
 rw[hd]
 refine EN i162.eq_1 fun K hK=> ?_
 refine Wa ?_
 refine L4 (r':={w.R i with state:=5}) S hA hi (j:=6) (by omega) rfl rfl rfl (fun x hx=>by rw[f9.enc,f9.enc,hx];rfl) ?_
 clear S
 intro h S
 have hR1:((w.put i {w.R i with state:=5}).R i).worth=(w.R i).worth:=by rw[D7 hi]
 have hi1:i<(w.put i {w.R i with state:=5}).s.R.length:=by rw[n8];exact hi
 have W1:(w.put i {w.R i with state:=5}).wf U m:=W.putR hi rfl rfl
 have B1:Bnd n (w.put i {w.R i with state:=5}):=B.putR rfl rfl rfl
 have hl1:(w.put i {w.R i with state:=5}).s.led=w.s.led:=rfl
 rw[←hl1,←hR1]at hK
 rw[←hR1]at hw
 generalize w.put i {w.R i with state:=5}=w1 at*
 clear hR1 hl1 hi W B hd
 obtain⟨x,hx,hrd,-,-,-⟩:=S.moRet hA hi1
 have q:=hrd 10 (by omega)
 simp only[f9.enc,l_o,l_p,hx]at q
 clear hx hrd
 refine Wb q ?_
 refine cV (a4v 0 1 (w1.R i).worth (.inl ⟨rfl,rfl⟩) S B1 (by omega) hw) ?_
 clear S q
 intro h S
 have W2:(w1.led (K0 w1.s.led 0 1 (w1.R i).worth)).wf U m:=W1.led _
 have B2:=B1.post (.inl ⟨rfl,rfl⟩) hw
 have hi2:i<(w1.led (K0 w1.s.led 0 1 (w1.R i).worth)).s.R.length:=hi1
 have hw2:0≤((w1.led (K0 w1.s.led 0 1 (w1.R i).worth)).R i).worth∧((w1.led (K0 w1.s.led 0 1 (w1.R i).worth)).R i).worth≤2199023255552:=hw
 generalize w1.led (K0 w1.s.led 0 1 (w1.R i).worth)=w2 at*
 clear hw hi1 W1 B1
 have hd:a1S C.ss w2 i=y8 (if 0≤(w2.R i).res then(if(w2.R i).worth<prc C.ss (w2.R i)then N8 (j2 w2 i) i (w2.R i).worth else N8 (I4 w2 3 (w2.R i).num (w2.R i).res) i ((w2.R i).worth-prc C.ss (w2.R i)))else N8 w2 i (w2.R i).worth) i:=rfl
 rw[hd]at hK
 clear hd
 have hpr:=a5o hD (w2.R i)
 obtain⟨x,hx,hrd,-,-,-⟩:=S.moRet hA hi2
 have q0:=hrd 0 (by omega)
 have q3:=hrd 3 (by omega)
 have q4:=hrd 4 (by omega)
 have q:=hrd 10 (by omega)
 simp only[f9.enc,l_o,l_p,hx,H8]at q q0 q3 q4
 clear hx hrd
 by_cases d1:0≤(w2.R i).res
 case neg=>
  rw[if_neg d1]at hK
  refine Wd q q4 d1 ?_
  refine cV (a6f (w2.R i).worth S W2 (by omega) B2 (by omega) hw2 hA hi2) ?_
  clear S q q0 q3 q4
  intro h S
  have W3:=a6g (s:=(w2.R i).worth) W2 hi2
  refine Wa ?_
  refine cV (J8 S W3.1 (by omega) hA (by rw[W3.2];exact hi2)) ?_
  clear S
  intro h S
  refine Wa ?_
  exact hK _ _ ⟨rfl,S⟩
 rw[if_pos d1]at hK
 obtain⟨k,t,o,sd,vs,hv,S1⟩:=St.mo.1 S
 have hC:=S1.moC
 clear S1
 refine Wd q q4 d1 ?_
 refine dE ?_
 refine Wc hC q3 ?_
 refine cI (a4O C (w2.R i).want (hc _ S.tl).ss (by omega)) ?_
 clear hC q0 q3 q4 q
 rintro _ h ⟨rfl,f1⟩
 have S:=S.frame f1
 clear f1
 have e:(t8 C.ss (w2.R i).want).getD 0=prc C.ss (w2.R i):=rfl
 rw[e]
 clear e
 obtain⟨x,hx,hrd,-,-,-⟩:=S.moRet hA hi2
 have q0:=hrd 0 (by omega)
 have q4:=hrd 4 (by omega)
 have q:=hrd 10 (by omega)
 simp only[f9.enc,l_o,l_p,hx,H8]at q q0 q4
 clear hx hrd
 by_cases d2:(w2.R i).worth<prc C.ss (w2.R i)
 ·rw[if_pos d2]at hK
  refine Wc q d2 ?_
  refine cV (a2A S W2 hul hA hi2) ?_
  clear S q q0 q4
  intro h S
  have W3:(j2 w2 i).wf U m:=W2.release hi2
  have B3:Bnd (n+1) (j2 w2 i):=B2.rel
  have hi3:i<(j2 w2 i).s.R.length:=by rw[C6];exact hi2
  refine Wa ?_
  refine cV (a6f (w2.R i).worth S W3 (by omega) B3 (by omega) hw2 hA hi3) ?_
  clear S
  intro h S
  have W4:=a6g (s:=(w2.R i).worth) W3 hi3
  refine Wa ?_
  refine cV (J8 S W4.1 (by omega) hA (by rw[W4.2];exact hi3)) ?_
  clear S
  intro h S
  refine Wa ?_
  exact hK _ _ ⟨rfl,S⟩
 ·rw[if_neg d2]at hK
  refine Wc q d2 ?_
  refine dE ?_
  refine Wc q0 q4 ?_
  refine cV (a6i 3 (w2.R i).num (w2.R i).res S W2 (by omega)) ?_
  clear S q q0 q4
  intro h S
  have W3:=W2.say 3 (w2.R i).num (w2.R i).res
  have B3:=B2.say 3 (w2.R i).num (w2.R i).res
  have hi3:i<(I4 w2 3 (w2.R i).num (w2.R i).res).s.R.length:=hi2
  refine Wa ?_
  refine cV (a6f ((w2.R i).worth-prc C.ss (w2.R i)) S W3 (by omega) B3 (by omega) ⟨by omega,by omega⟩ hA hi3) ?_
  clear S
  intro h S
  have W4:=a6g (s:=(w2.R i).worth-prc C.ss (w2.R i)) W3 hi3
  refine Wa ?_
  refine cV (J8 S W4.1 (by omega) hA (by rw[W4.2];exact hi3)) ?_
  clear S
  intro h S
  refine Wa ?_
  exact hK _ _ ⟨rfl,S⟩
end
end
section
set_option maxHeartbeats 8000000
section
variable{h0 h:c9}{l:List HP}{L:U1}{C:Cfg}{u:Value}{w:Wk}{U:List Unt}{m n b i:Nat}{Au:Option Addr}{cu:Nat}
theorem St.moGs(S:St h0 h (m9 L C u w::l))(hA:L.A=some ⟨b,0,none⟩)(hi:i<w.s.R.length)(hg:0<(w.R i).gs.length):∃bg d,rd1 h (.pointer (some ⟨b,i*14+9,none⟩))=some (.slice (some ⟨bg,0,none⟩) (w.R i).gs.length d)∧Arr i4 1 h (some ⟨bg,0,none⟩) (w.R i).gs∧
  ∀(j off:Nat) (g:Int) (K:Value→c9→Prop) (s:Tag h) (t:Tag K),j<(w.R i).gs.length→off=j→(∀h',St h0 h' (m9 L C u (w.put i {w.R i with gs:=(w.R i).gs.set j g})::l)→K undef h')→P5 1 (.pointer (some ⟨bg,off,none⟩)) [.int .i64 g] h K s t:=by
 obtain⟨x,hx,hrd,-,-,hgs⟩:=S.moRet hA hi
 have q9:=hrd 9 (by omega)
 clear hrd
 obtain⟨k,tt,o,sd,vs,hv,S⟩:=St.mo.1 S
 have hil:i<vs.length:=by rw[←hv,l_z]at hi;exact hi
 have ex:vs[i].r=w.R i:=by
  unfold Wk.R
  rw[←hv,l_s,a0N,l_r hil]
  rfl
 have q:rd1 h (.pointer (some ⟨b,i*14+9,none⟩))=vs[i].enc[9]? :=by
  have S4:=St.p4 S
  rw[hA]at S4
  exact t7 f9.enc_len S4 hil (by omega)
 simp only[f9.enc,l_o,l_p,ex]at q
 have S1:=St.perm S (V3 _ _ _ _ _ _ _ _)
 have S2:=a7C hil S1
 have S3:=St.star.1 S2
 have hgne:0<vs[i].r.gs.length:=by rw[ex];exact hg
 obtain⟨bg,hbg⟩:=S3.p1.ownAt hgne
 have Sg:=S3.p1
 rw[hbg]at q Sg
 refine⟨bg,vs[i].d,q,by have:=Sg.arr zEl;rwa[ex]at this,fun j off g K s t hj hoff hk=> ?_⟩
 subst hoff
 refine v7 zEl (i:=off) (x:=g) Sg (by rw[ex];exact hj) (by rw[l9]) rfl rfl rfl ?_
 intro h' S
 rw[ex]at S
 obtain⟨y,hyd⟩:∃y:f9,y={vs[i]with r:={w.R i with gs:=(w.R i).gs.set off g} }:=⟨_,rfl⟩
 have hrow:j0 y=a2D (f8 i4 1 3 (.slice vs[i].A (w.R i).us.length vs[i].c) (w.R i).us) (f8 i4 1 3 (.slice (some ⟨bg,0,none⟩) (w.R i).gs.length vs[i].d) ((w.R i).gs.set off g)):=by
  rw[hyd,j0]
  simp only[S6,hbg]
 have S3:=St.star.2 S.p1
 rw[←hrow]at S3
 have S:=b0d (F:=j0) (z:=y) hil S3
 have henc:y.enc=vs[i].enc:=by rw[hyd,f9.enc,f9.enc];simp only[S6,ex]
 have S:=S.ownTo (ys:=vs.set i y) (enc':=f9.enc) (by rw[a8C _ hil henc]) (by rw[S6])
 have S:=S.perm (V3 _ _ _ _ _ _ _ _).symm
 refine hk _ (St.mo.2 ⟨k,tt,o,sd,vs.set i y,?_,?_⟩)
 ·rw[List.map_set,hv,hyd];rfl
 ·have e2:(w.put i {w.R i with gs:=(w.R i).gs.set off g}).s.R.length=w.s.R.length:=n8
  unfold moL
  rw[e2]
  exact S
theorem a3H(n:Nat)(hn:n<U.length)(hc:∀h',St h0 h' l→C.rd h')(hu:∀h',St h0 h' l→Arr Unt.enc 4 h' Au U)(hD:Stc C U)(S:St h0 h (m9 L C (.slice Au U.length cu) w::l)):
  d8 Tryz.prog 160 [.pointer (some ⟨L.p,0,none⟩),.int .i64 (n:Int)] h fun v h'=>v= .agg (C9 C.ps (j6 U n).cat).enc.toArray∧St h0 h' (m9 L C (.slice Au U.length cu) w::l):=by
 have hat:j6 U (n:Int)=U[n]:=by rw[j6,J5,l_s,l_r hn];rfl
 have hcat:=hD.cat _ (l_v hn)
 obtain⟨c,hcc⟩:=l_u hcat
 have hdef:C9 C.ps (j6 U (n:Int)).cat=C.ps.getD c Pol.zero:=by
  unfold C9
  rw[hat,if_pos hcat,hcc,J5]
 rw[hdef]
 obtain⟨k,t,o,sd,vs,hv,S⟩:=St.mo.1 S
 have hl:∀{h':c9}{g:HP},St h0 h' (g::moL L C (.slice Au U.length cu) w k t o sd vs l)→St h0 h' l:=fun S=>(St.mo.2 ⟨k,t,o,sd,vs,hv,S.tl⟩:St h0 _ (m9 L C _ w::l)).tl
 refine EN i160.eq_1 fun K hK=>Wa ?_
 refine tA S ?_
 clear S
 intro g h S
 replace S:=S.nm
 have F:=S.tl.moF
 obtain⟨b4,o4,hA4,q4⟩:=(hu _ (hl S)).at hn
 have q2:=rP q4 2 (by omega)
 simp only[Unt.enc,l_o,l_p,hcc]at q2
 rw[hA4]at F
 by_cases hk:c<C.ps.length
 ·obtain⟨b5,o5,hA5,q5⟩:=(hc _ (hl S)).ps.at hk
  have hgd:C.ps.getD c Pol.zero=C.ps[c]:=by rw[l_s,l_r hk];rfl
  have F:=fun off=>(F off).trans (congrArg (fun A=>(x6 {C with A3:=A} (.slice (some ⟨b4,o4,none⟩) U.length cu) k (.slice L.A w.s.R.length L.c) t o sd w.s)[off]?) hA5)
  rw[hgd]at hK
  generalize C.ps[c]=P at*
  refine Wf F @x6.eq_1 q2 q5 @Pol.enc.eq_1 ?_
  (revert S;(try clear F);refine ST fun h S F=> ?_)
  refine Wb F ?_
  exact hK _ _ ⟨rfl,St.mo.2 ⟨k,t,o,sd,vs,hv,S.tl⟩⟩
 ·have hgd:C.ps.getD c Pol.zero=Pol.zero:=by rw[l_s,a0l (by omega)];rfl
  rw[hgd]at hK
  refine Wd F @x6.eq_1 q2 ?_
  (revert S;(try clear F);refine ST fun h S F=> ?_)
  refine Wb F ?_
  exact hK _ _ ⟨rfl,St.mo.2 ⟨k,t,o,sd,vs,hv,S.tl⟩⟩
theorem St.mrU(S:St h0 h (m9 L C u w::l)):rd1 h (.pointer (some ⟨L.p,3,none⟩))=some u:=by
 obtain⟨k,t,o,sd,vs,hv,S⟩:=St.mo.1 S
 exact S.moF 3
theorem St.mrNow(S:St h0 h (m9 L C u w::l)):rd1 h (.pointer (some ⟨L.p,14,none⟩))=some (.int .i64 w.s.now):=by
 obtain⟨k,t,o,sd,vs,hv,S⟩:=St.mo.1 S
 exact S.moF 14
theorem St.mrR(S:St h0 h (m9 L C u w::l)):rd1 h (.pointer (some ⟨L.p,10,none⟩))=some (.slice L.A w.s.R.length L.c):=by
 obtain⟨k,t,o,sd,vs,hv,S⟩:=St.mo.1 S
 exact S.moF 10
theorem St.mrOs(S:St h0 h (m9 L C u w::l)):rd1 h (.pointer (some ⟨L.p,0,none⟩))=some (.slice C.A1 C.os.length C.c1):=by
 obtain⟨k,t,o,sd,vs,hv,S⟩:=St.mo.1 S
 exact S.moF 0
theorem St.mrC(S:St h0 h (m9 L C u w::l)):rdN h L.p 0 3=some C.enc:=by
 obtain⟨k,t,o,sd,vs,hv,S⟩:=St.mo.1 S
 exact S.moC
theorem St.mrRet(S:St h0 h (m9 L C u w::l))(hA:L.A=some ⟨b,0,none⟩)(hi:i<w.s.R.length){j:Nat}(hj:j<14)(h8:j≠8∧j≠9):rd1 h (.pointer (some ⟨b,i*14+j,none⟩))=(f9.enc ⟨w.R i,none,0,none,0⟩)[j]? :=by
 obtain⟨x,hx,hrd,-,-,-⟩:=S.moRet hA hi
 rw[hrd j hj]
 have:j=0∨j=1∨j=2∨j=3∨j=4∨j=5∨j=6∨j=7∨j=10∨j=11∨j=12∨j=13:=by omega
 rcases this with rfl|rfl|rfl|rfl|rfl|rfl|rfl|rfl|rfl|rfl|rfl|rfl<;>(simp only[f9.enc,l_o,l_p,hx])
theorem St.mrUs(S:St h0 h (m9 L C u w::l))(hA:L.A=some ⟨b,0,none⟩)(hi:i<w.s.R.length):∃A c,rd1 h (.pointer (some ⟨b,i*14+8,none⟩))=some (.slice A (w.R i).us.length c)∧Arr i4 1 h A (w.R i).us:=by
 obtain⟨x,hx,hrd,-,h1,-⟩:=S.moRet hA hi
 have q:=hrd 8 (by omega)
 simp only[f9.enc,l_o,l_p,hx]at q
 exact⟨_,_,q,by rw[←hx];exact h1⟩
end
end
end Go.Proofs.YtjagmebglhbdkaaGreat.MX
