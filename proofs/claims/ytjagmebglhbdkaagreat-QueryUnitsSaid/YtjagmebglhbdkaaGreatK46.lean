import Derived.Test.YtjagmebglhbdkaaGreatK45
namespace Go.Proofs.YtjagmebglhbdkaaGreat.MX
open Go Go.Proofs
set_option linter.unusedSimpArgs false
set_option linter.unusedVariables false
section
set_option maxHeartbeats 16000000
def a3t(K:List KU):List Value:=(List.range 9).map fun p:Nat=> .int .i64 (U3 K p)
theorem b5H(K:List KU)(x:KU){n:Nat}(hx:x.place=n)(hn:n<9):u6 (a3t K) n [.int .i64 (U3 K n+1:Nat)]=a3t (K++ [x]):=by
 have hc:∀p:Int,U3 (K++ [x]) p=U3 K p+if(n:Int)=p then 1 else 0:=fun p=>by
  unfold U3
  rw[List.filter_append,l_m]
  congr 1
  by_cases h:(n:Int)=p
  ·rw[if_pos h,List.filter_cons,if_pos (by rw[hx];exact decide_eq_true h)];rfl
  ·rw[if_neg h,List.filter_cons,if_neg (by rw[hx];simpa using h)];rfl
 have e:a3t (K++ [x])=(List.range 9).map fun p:Nat=> .int .i64 ((U3 K p+if(n:Int)=(p:Int)then 1 else 0:Nat):Int):=by
  unfold a3t
  refine List.map_congr_left fun p _=> ?_
  rw[hc]
 rw[e]
 have:n=0∨n=1∨n=2∨n=3∨n=4∨n=5∨n=6∨n=7∨n=8:=by omega
 rcases this with rfl|rfl|rfl|rfl|rfl|rfl|rfl|rfl|rfl<;>rfl
theorem c0Z(K:List KU){n:Nat}(hn:n<9):(a3t K)[n]? =some (.int .i64 (U3 K n)):=by
 have:n=0∨n=1∨n=2∨n=3∨n=4∨n=5∨n=6∨n=7∨n=8:=by omega
 rcases this with rfl|rfl|rfl|rfl|rfl|rfl|rfl|rfl|rfl<;>rfl
def opn(R:List Ret):List Int:=(R.filter fun r=> !decide (6≤r.state∧r.state≤9)).map Ret.num
theorem b1x{R:List Ret}{i:Nat}(hi:i<R.length):opn (R.take (i+1))=opn (R.take i)++if 6≤R[i].state∧R[i].state≤9 then []else [R[i].num]:=by
 unfold opn
 rw[l_t hi,List.filter_append,K9]
 congr 1
 by_cases h:6≤R[i].state∧R[i].state≤9
 ·rw[if_pos h,List.filter_cons,if_neg (by rw[decide_eq_true h];decide)];rfl
 ·rw[if_neg h,List.filter_cons,if_pos (by rw[decide_eq_false h];decide)];rfl
theorem c3z{R:List Ret}{i:Nat}(hi:i<R.length)(h:¬(6≤R[i].state∧R[i].state≤9)):∃hk:(opn (R.take i)).length<(opn R).length,(opn R)[(opn (R.take i)).length]=R[i].num:=by
 have e:opn R=opn (R.take i)++R[i].num::opn (R.drop (i+1)):=by
  have e1:opn R=opn (R.take (i+1))++opn (R.drop (i+1)):=by
   unfold opn
   rw[←K9,←List.filter_append,G3]
  rw[e1,b1x hi,if_neg h,l_q]
  rfl
 refine⟨by rw[e];simp,?_⟩
 simp only[e]
 rw[List.getElem_append_right (v9 _)]
 simp
theorem a7R(C:Cfg)(A:Option Addr)(c:Nat)(xs:List i5)(n:Int)(h0:c9)(hC:C.ok h0)(ha:Arr i5.enc 12 h0 A xs)(hl:xs.length≤c)(hcm:c≤maxLen)(hx:∀x∈xs,x.ok h0)(hn:I64 n):
  d8 Tryz.prog 7 [.agg C.enc.toArray,.slice A xs.length c,.int .i64 n] h0 fun v h'=>v= .bool true∧Fr h0 h' []:=by
 have hm:maxLen=9223372036854775807:=rfl
 obtain⟨r,w⟩:=hC
 have S:=St.nil h0
 have r':∀{l:List HP} (h':c9),St h0 h' l→C.rd h':=fun h' S=>r.fr S.fr
 refine EN i7.eq_1 fun K hK=>Wa ?_
 (revert S;(try clear F);refine AL fun g h S F=> ?_)
 refine Wa ?_
 refine cF S (a6C _) fun h S=> ?_
 ((try clear F);have F:=S.fx)
 refine Wb F ?_
 refine cF S (c0y C xs 60 (by omega) (by omega) (r' _ S) w (ha.fr S.fr (by simp))) fun h S=> ?_
 by_cases hf:fewS C xs 60
 case neg=>
  rw[dF hf]
  refine Wa ?_
  refine cF S (a6C _) fun h S=> ?_
  refine Wa ?_
  exact hK _ _ ⟨rfl,S.fr⟩
 rw[dT hf]
 ((try clear F);have F:=S.fx)
 refine Wb F ?_
 obtain⟨hxl,hxu,f1,f2,f3,f4⟩:=hf
 have f4':∀o∈C.os,o.ls.length<1000000:=fun o ho=>by have:=f4 o ho;omega
 refine cI (b6r C A c xs r w (by omega) (by omega) (by omega) f4' ha (by omega) hx hxu S) ?_
 clear S F
 rintro _ h (⟨_,rfl,S⟩|⟨hok,p,L,D,Au,Bu,cu,du,s,rfl,hp,hD,P,S⟩)
 ·refine Wa ?_
  exact hK _ _ ⟨rfl,S.fr⟩
 have hrl:=P.wf.rl
 have hkl:=P.wf.kl
 have hul:=hD.ul
 simp only at hrl hkl
 have hlen:∀r∈s.R,r.us.length<1000000∧r.gs.length<1000000:=fun r hr=>by have:=Wk.wf.len P.wf r hr;omega
 have S:St h0 h (y7 p D (.slice Au (j8 C).length cu) s::a3N D (.slice Au (j8 C).length cu) (j8 C)::m9 L C (.slice Bu (j8 C).length du) ⟨s,[]⟩::f8 Unt.enc 4 74 (.slice Bu (j8 C).length du) (j8 C):: [d9 g C.enc 26]):=S
 have hst:∀r∈s.R,1≤r.state∧r.state≤9:=fun r hr=>by
  obtain⟨i,hi,rfl⟩:=U9 hr
  have:=(P.inv.ret i hi).st
  rwa[show Wk.R ⟨s,[]⟩ i=s.R[i] by unfold Wk.R;rw[l_s,l_r hi];rfl]at this
 have hnum:∀i (hi:i<s.R.length),s.R[i].num=(i:Int)+1:=fun i hi=>by
  have:=(P.inv.ret i hi).num
  rwa[show Wk.R ⟨s,[]⟩ i=s.R[i] by unfold Wk.R;rw[l_s,l_r hi];rfl]at this
 have hpl:∀i (hi:i<s.K.length),0≤s.K[i].place∧s.K[i].place≤8:=fun i hi=>by
  have:=(P.inv.flg i hi).1
  rwa[show s.K.getD i KU0=s.K[i] by rw[l_s,l_r hi];rfl]at this
 have WP:=P.wf
 generalize j8 C=U at*
 refine Wa ?_
 refine cI (b5q n S (fun h' S=>(sAa (U:=U) (A:=Au) (c:=cu) (D:=D) S (by simp)).2) hul (by omega) hrl hlen) ?_
 clear S
 rintro _ h ⟨rfl,S⟩
 have S:St h0 h (m9 L C (.slice Bu U.length du) ⟨s,[]⟩::y7 p D (.slice Au U.length cu) s::a3N D (.slice Au U.length cu) U::f8 Unt.enc 4 74 (.slice Bu U.length du) U:: [d9 g C.enc 26]):=S.p2
 have hKs:∀{h':c9}{l:List HP},St h0 h' (m9 L C (.slice Bu U.length du) ⟨s,[]⟩::l)→∃bk ck,(0<s.K.length→bk≠none)∧rd1 h' (.pointer (some ⟨L.p,4,none⟩))=some (.slice bk s.K.length ck)∧Arr KU.enc 4 h' bk s.K:=fun S=>by
  obtain⟨k,t,o,sd,vs,hv,S⟩:=St.mo.1 S
  obtain⟨Ak,ck,rfl⟩:=(St.p1 S).sl
  refine⟨Ak,ck,fun h=> ?_,S.moF 4,(St.p1 S).arr KU.enc_len⟩
  obtain⟨b,hb⟩:=(St.p1 S).ownAt h
  rw[hb]
  simp
 obtain⟨bk,ck,hbk,-,-⟩:=hKs S
 have hKs:∀{h':c9}{l:List HP},St h0 h' (m9 L C (.slice Bu U.length du) ⟨s,[]⟩::l)→∃bk ck,(0<s.K.length→bk≠none)∧rd1 h' (.pointer (some ⟨L.p,4,none⟩))=some (.slice bk s.K.length ck)∧Arr KU.enc 4 h' bk s.K:=hKs
 have hd:n<0∨(¬n<0∧(s.K.length:Int)≤n)∨∃i:Nat,n=i∧i<s.K.length:=by
  by_cases a:n<0
  ·exact .inl a
  ·by_cases b:(s.K.length:Int)≤n
   ·exact .inr (.inl ⟨a,b⟩)
   ·exact .inr (.inr ⟨n.toNat,by omega,by omega⟩)
 have hz4:z4.length=4:=rfl
 rcases hd with d|d|⟨i,rfl,hi⟩
 rw[if_neg (by omega)]
 refine Wb hz4 ?_
 refine tA S ?_
 clear S
 intro b h S
 refine Wb hz4 ?_
 refine tS S rfl rfl (l_a rfl) ?_
 clear S
 intro h S
 have FN:rdN h b 0 4=some z4:=by rw[n7 S.blk (v9 4)];rfl
 refine Wd d @FN @z4.eq_1 ?_
 have S:=S.tl
 clear FN d
 rotate_left 1
 rw[if_neg (by omega)]
 refine Wb hz4 ?_
 refine tA S ?_
 clear S
 intro b h S
 refine Wb hz4 ?_
 refine tS S rfl rfl (l_a rfl) ?_
 clear S
 intro h S
 have FN:rdN h b 0 4=some z4:=by rw[n7 S.blk (v9 4)];rfl
 obtain⟨bk2,ck2,-,FK,-⟩:=hKs S.tl
 refine We d @FK @FN @z4.eq_1 ?_
 have S:=S.tl
 clear FN FK d
 rotate_left 1
 rw[if_pos ⟨by omega,by omega⟩]
 have hU4:(unE s U i).length=4:=rfl
 have hiU:i<U.length:=by omega
 refine Wb hU4 ?_
 refine tA S ?_
 clear S
 intro b h S
 refine Wb hU4 ?_
 refine tS S rfl rfl (l_a rfl) ?_
 clear S
 intro h S
 have FN:rdN h b 0 4=some (unE s U i):=by rw[n7 S.blk (v9 4)];rfl
 obtain⟨bk2,ck2,hb2,FK,hKa⟩:=hKs S.tl
 obtain⟨b6,o6,rfl,qk⟩:=hKa.at hi
 have k0:=rP0 qk (by omega)
 have k1:=rP qk 1 (by omega)
 have ep:i8 s.K (i:Int)=s.K[i].place:=by rw[i8,if_pos (by omega),J5,l_r hi];rfl
 have es:b6I s.K (i:Int)=s.K[i].sku:=by rw[b6I,if_pos (by omega),J5,l_r hi];rfl
 simp only[KU.enc,l_o,l_p,←ep,←es]at k0 k1
 obtain⟨b7,o7,hb7,qu⟩:=(S.tl.p3.arr Unt.enc_len).at hiU
 have hat:j6 U (i:Int)=U[i]:=by rw[j6,J5,l_s,l_r hiU];rfl
 have u3:=rP qu 3 (by omega)
 simp only[Unt.enc,l_o,l_p]at u3
 rw[←hat]at u3
 have FU:=S.tl.mrU
 rw[hb7]at FU
 have d1:¬(i:Int)<0:=by omega
 have d2:¬(s.K.length:Int)≤(i:Int):=by omega
 refine Wd d1 @FK d2 ?_
 refine dE ?_
 refine Wh @FN @FK k0 k1 @FU u3 @unE.eq_1 ?_
 refine cI (a6n (i:Int) S.tl WP hst) ?_
 rintro _ h ⟨rfl,rfl⟩
 refine⟨rfl,?_⟩
 refine Wa ?_
 have S:=S.tl
 clear FN FK k0 k1 FU u3 qu qk hKa ep es d1 d2
 rotate_left 1
 all_goals
  refine tA S ?_
  clear S
  intro b2 h S
  have S:St h0 h (d9 b2 (a3t []) 60::m9 L C (.slice Bu U.length du) ⟨s,[]⟩::y7 p D (.slice Au U.length cu) s::a3N D (.slice Au U.length cu) U::f8 Unt.enc 4 74 (.slice Bu U.length du) U:: [d9 g C.enc 26]):=S
  obtain⟨bk,ck,-,FK,-⟩:=hKs S.tl
  refine Wb @FK ?_
  refine LKp (Nat.zero_add 0) [7,8,11,95] (fun ρ h'=>∃i:Nat,ρ 96= .int .i64 i∧i≤s.K.length∧St h0 h' (d9 b2 (a3t (s.K.take i)) 60::m9 L C (.slice Bu U.length du) ⟨s,[]⟩::y7 p D (.slice Au U.length cu) s::a3N D (.slice Au U.length cu) U::f8 Unt.enc 4 74 (.slice Bu U.length du) U:: [d9 g C.enc 26])) (fun ρ _=>s.K.length-(iv (ρ 96)).toNat) ?_ ?_
  ·refine Wa ?_
   exact⟨0,rfl,by omega,S⟩
  clear S FK
  rintro ρ h J ⟨e7,e8,e11,e95⟩ hJ ⟨i,e96,hi,S⟩
  refine Wc e95 e96 ?_
  refine cD (fun hlt=> ?_) (fun hlt=> ?_)
  ·have hil:i<s.K.length:=by omega
   obtain⟨bk,ck,-,FK,hKa⟩:=hKs S.tl
   obtain⟨b6,o6,rfl,qk⟩:=hKa.at hil
   have k0:=rP0 qk (by omega)
   simp only[KU.enc,l_o]at k0
   obtain⟨h1,h2⟩:=hpl i hil
   obtain⟨q,hq⟩:=l_u h1
   have hq9:q<9:=by omega
   have hs:=b5H (s.K.take i) s.K[i] hq hq9
   rw[←l_t hil]at hs
   have hcl:U3 (s.K.take i) q≤i:=by
    have:=List.length_filter_le (fun u:KU=>decide (u.place=q)) (s.K.take i)
    rw[v8]at this
    unfold U3
    omega
   rw[hq]at k0
   have kc:rd1 h (.pointer (some ⟨b2,q,none⟩))=some (.int .i64 (U3 (s.K.take i) q)):=by rw[j3 S.blk];exact c0Z _ hq9
   have hc9:q+1≤(a3t (s.K.take i)).length:=by show q+1≤9;omega
   refine Wh e8 e11 e96 @FK k0 kc @l9 ?_
   refine tS S rfl rfl hc9 ?_
   clear S FK k0 kc qk hKa
   intro h S
   refine Wb e96 ?_
   refine hJ _ _ ?_ ?_
   ·refine Wa ?_
    exact⟨i+1,rfl,by omega,by rw[←hs];exact S⟩
   ·refine Wb e96 ?_
    omega
  obtain rfl:i=s.K.length:=by omega
  rw[D4]at S
  clear hJ e95 e96 hi hlt
  refine Wb e7 ?_
  refine cI (b7i S.p2 hrl hlen) ?_
  clear S
  intro v h S
  have S:St h0 h (f8 i4 1 3 v (opn s.R)::_):=S
  obtain⟨Av,cv,rfl⟩:=S.sl
  have S:St h0 h (f8 i4 1 3 (.slice Av (opn s.R).length cv) (opn s.R)::y7 p D (.slice Au U.length cu) s::d9 b2 (a3t s.K) 60::m9 L C (.slice Bu U.length du) ⟨s,[]⟩::a3N D (.slice Au U.length cu) U::f8 Unt.enc 4 74 (.slice Bu U.length du) U:: [d9 g C.enc 26]):=S
  have FR:=S.p3.mrR
  simp only at FR
  refine Wc e8 @FR ?_
  refine LKp (Pd e7 e8 e11) [7,8,11,13,118] (fun ρ h'=>∃i:Nat,ρ 119= .int .i64 i∧i≤s.R.length∧ρ 14= .int .i64 (opn (s.R.take i)).length∧h'=h) (fun ρ _=>s.R.length-(iv (ρ 119)).toNat) ?_ ?_
  ·refine Wa ?_
   exact⟨0,rfl,by omega,rfl⟩
  clear e7 e8 e11
  rintro ρ h J ⟨e7,e8,e11,e13,e118⟩ hJ ⟨i,e119,hi,e14,rfl⟩
  have hol:(opn (s.R.take i)).length≤i:=by
   have:=List.length_filter_le (fun r:Ret=> !decide (6≤r.state∧r.state≤9)) (s.R.take i)
   rw[v8]at this
   unfold opn
   rw[l_z]
   omega
  refine Wc e118 e119 ?_
  refine cD (fun hlt=> ?_) (fun hlt=> ?_)
  ·have hil:i<s.R.length:=by omega
   obtain⟨br,hA⟩:∃b,L.A=some ⟨b,0,none⟩:=by
    obtain⟨k,t,o,sd,vs,hv,S⟩:=St.mo.1 S.p3
    exact(St.p4 S).ownAt (by rw[←l_z (f:=f9.r),hv];show 0<s.R.length;omega)
   have q6:rd1 h (.pointer (some ⟨br,i*14+6,none⟩))=some (.int .i64 s.R[i].state):=by
    have:=S.p3.mrRet hA (show i<(⟨s,[]⟩:Wk).s.R.length from hil) (j:=6) (by omega) (by omega)
    rw[show Wk.R ⟨s,[]⟩ i=s.R[i] by unfold Wk.R;rw[l_s,l_r hil];rfl]at this
    exact this
   rw[hA]at FR
   have hsx:=b1x hil
   have hs2:=hst _ (l_v hil)
   have hnm:=hnum i hil
   by_cases d:s.R[i].state<6
   ·have hnd:¬(6≤s.R[i].state∧s.R[i].state≤9):=by omega
    rw[if_neg hnd]at hsx
    obtain⟨hk,hv⟩:=c3z hil hnd
    obtain⟨b9,o9,e9,q9⟩:=(S.arr zEl).at hk
    have q9:=rP0 q9 (by omega)
    simp only[i4,l_o,l9,hv,hnm]at q9
    rw[e9]at e13
    have d2:¬((opn s.R).length:Int)≤((opn (s.R.take i)).length:Int):=by omega
    refine Wi e8 e13 e14 e119 @FR q6 d (Pd d2 q9 @l9) ?_
    refine hJ _ _ ?_ ?_
    ·refine Wb e9 ?_
     exact⟨i+1,rfl,by omega,by rw[hsx,l_m];rfl⟩
    ·refine Wb e119 ?_
     omega
   ·rw[if_pos (by omega),D6]at hsx
    refine Wf e8 e119 @FR q6 d ?_
    refine hJ _ _ ?_ ?_
    ·refine Wb e14 ?_
     exact⟨i+1,rfl,by omega,by rw[hsx]⟩
    ·refine Wb e119 ?_
     omega
  obtain rfl:i=s.R.length:=by omega
  rw[D4]at e14
  have F9:rdN h b2 0 9=some (a3t s.K):=by rw[n7 S.p2.blk (v9 9)];rfl
  refine Wc e13 e14 ?_
  refine dI (fun h'=>rdN h' b2 0 9=some (a3t s.K)) F9 ?_
  have r9:∀K t,j7 (fun h'=>rdN h' b2 0 9=some (a3t s.K)) (fun h'=>i0 (rdN h' b2 0 9) fun cs=>some (.agg cs.toArray)) K t=K (.agg (a3t s.K).toArray):=fun K t=>rI (fun h' hh=>by rw[hh];rfl) h F9
  have hce:a5Q s.K 9=a3t s.K:=rfl
  refine Wf e7 e11 e13 e14 r9 ?_
  refine cI (b2n S.p1 (by omega)) ?_
  clear S F9 r9 FR
  rintro _ h ⟨rfl,S⟩
  refine⟨by rw[n7 S.p2.blk (v9 9)];rfl,?_⟩
  rw[hce]
  (try simp(disch:=first|omega|assumption|exact l_a rfl) only[go_sem,↓wBk,simprocAttr,show a3t s.K=[.int .i64 (U3 s.K 0),.int .i64 (U3 s.K 1),.int .i64 (U3 s.K 2),.int .i64 (U3 s.K 3),.int .i64 (U3 s.K 4),.int .i64 (U3 s.K 5),.int .i64 (U3 s.K 6),.int .i64 (U3 s.K 7),.int .i64 (U3 s.K 8)]from rfl])
  exact hK _ _ ⟨rfl,S.fr⟩
end
end Go.Proofs.YtjagmebglhbdkaaGreat.MX
