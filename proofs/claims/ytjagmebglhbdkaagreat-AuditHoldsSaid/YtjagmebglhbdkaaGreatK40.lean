import Derived.Test.YtjagmebglhbdkaaGreatK39
namespace Go.Proofs.YtjagmebglhbdkaaGreat.MX
open Go Go.Proofs
set_option linter.unusedSimpArgs false
set_option linter.unusedVariables false
section
set_option maxHeartbeats 16000000
theorem b1w{U:List Unt}{m:Nat}:∀{G:List Msg}{w:Wk},w.wf U m→(∀x∈G,1≤x.rma∧x.rma≤w.s.R.length)→(G.foldl (fun w x=>N4 w (x.rma-1).toNat 8) w).wf U m∧(G.foldl (fun w x=>N4 w (x.rma-1).toNat 8) w).s.R.length=w.s.R.length
 | [],w,W,_=>⟨W,rfl⟩
 |x::G,w,W,h=>by
  have hx:=h x (by simp)
  have hi:(x.rma-1).toNat<w.s.R.length:=by omega
  have hl:=(b8O hi 8).2
  obtain⟨a,b⟩:=b1w (G:=G) (b4M W hi 8) (fun y hy=>by rw[hl];exact h y (by simp[hy]))
  exact⟨a,b.trans hl⟩
theorem b4A{D:Cfg}{U:List Unt}{w:Wk}{m e:Nat}{q:Int}(hD:Stc D U)(I:Inv D U w e q)(hq:0≤q)(W:w.wf U m):Bnd 0 w:=by
 have hl:lim 0=1000000000000000:=rfl
 have hr:∀i,(w.R i).paid=0∧(w.R i).credd=0∧(w.R i).given=0∨0≤(w.R i).paid∧0≤(w.R i).credd∧0≤(w.R i).given∧(w.R i).paid+(w.R i).credd+(w.R i).given≤858993459200:=fun i=>by
  by_cases hi:i<w.s.R.length
  ·have hI:=I.ret i hi
   have hw:=I7 hD hI (W.len _ (C5 hi))
   by_cases hf:fin (w.R i)
   ·have:=a4d hD I hq hi hf
    refine .inr ?_
    split at this<;>omega
   ·have h1:=hI.pos
    have h2:=hI.nil (fun h=>hf (.inl h)) (fun h=>hf (.inr h))
    unfold tol at h2
    exact .inl (by omega)
  ·have:w.R i=Ret.zero:=by unfold Wk.R;rw[l_s,Y1 (by omega)];rfl
   rw[this]
   exact .inl ⟨rfl,rfl,rfl⟩
 refine⟨fun k=> ?_,fun i=> ?_,fun i=> ?_,fun i=> ?_⟩
 ·have:=b0m hD I hq W k
  rw[hl];omega
 all_goals(have:=hr i;rw[hl];omega)
theorem b1m{U:List Unt}{w:Wk}{n i:Nat}(B:Bnd n w):∀j,Bnd n (u7 U w i j)
 |0=>B
 |j+1=>((b1m B j).mv _ _).putR rfl rfl rfl
theorem a8W{D:Cfg}{U:List Unt}(hD:Stc D U):∀{l:List Int}{w:Wk}{m:Nat},Inv D U w 1000 0→w.wf U m→l.Nodup→(∀n∈l,(1≤n∧n≤w.s.R.length)∧∀x∈w.s.T,x.num≠n)→(l.foldl (P7 D.ss U) w).s.R.length=w.s.R.length
 | [],w,m,I,Wf,_,_=>rfl
 |n::l,w,m,I,Wf,hn,h=>by
  obtain⟨h1,h2⟩:=h n (by simp)
  obtain⟨a,b,c,d⟩:=b4K hD I Wf h1 h2
  rw[List.nodup_cons]at hn
  exact(a8W hD (l:=l) b c hn.2 (fun k hk=>by
   have:=h k (by simp[hk])
   exact⟨by omega,fun x hx=>this.2 x (c3u _ _ _ x hx)⟩)).trans d
theorem c0n(ss:List Sup)(w:Wk)(i:Nat):(a2g ss w i).s.now=w.s.now:=by
 have hc:∀v:Wk,(y8 v i).s.now=v.s.now:=fun v=>by unfold y8;split<;>rfl
 have hp:∀(v:Wk) s,(O3 v i s).s.now=v.s.now:=fun v s=>by unfold O3;split;rfl;split<;>rfl
 have hr:(j5 w i).s.now=w.s.now:=by unfold j5;split<;>rfl
 unfold a2g
 rw[hc]
 split
 ·split
  ·rw[hp,hr]
  ·rw[hp];rfl
 ·rw[hp]
theorem b8I(ss:List Sup)(U:List Unt)(w:Wk)(n:Int):(P7 ss U w n).s.now=w.s.now:=by
 unfold P7
 simp only
 split
 ·unfold a3z N2
  rw[c0n,K2]
  rfl
 ·split
  ·unfold N4 j5
   simp only
   split<;>rfl
  ·rfl
theorem b1v(ss:List Sup)(U:List Unt):∀(l:List Int) (w:Wk),(l.foldl (P7 ss U) w).s.now=w.s.now
 | [],_=>rfl
 |n::l,w=>(b1v ss U l _).trans (b8I ss U w n)
theorem a9J{U:List Unt}(h:b3Y U):∀us:List Int,0≤(us.map fun u=>(j9 U u).share).sum∧(us.map fun u=>(j9 U u).share).sum≤4294967296*us.length
 | []=>by simp
 |u::us=>by
  have h1:=a9J h us
  have h2:=L0 h u
  simp only[G7,K1,l_f]
  omega
section
variable{h0 h:c9}{l:List HP}{L:V3}{C:Cfg}{u:Value}{w:Wk}{U:List Unt}{m n b i:Nat}{k t o sd:Value}{vs:List i0}{X:HP}
theorem b3D:(X::moL L C u w k t o sd vs l).Perm (moL L C u w k t o sd vs (X::l)):=(List.perm_middle (l₁:=_::_::_::_::_::_::vs.map j2)).symm
variable{Au:Option Addr}{cu:Nat}
theorem c0K(days:Int)(hc:∀h',St h0 h' l→C.rd h')(hu:∀h',St h0 h' l→Arr Unt.enc 4 h' Au U)(hD:Stc C U)(I:Inv C U w 1000 0)(S:St h0 h (n9 L C (.slice Au U.length cu) w::l))(W:w.wf U m)(hm:m<100000)(hd:1≤days∧days≤1000)(hnw:w.s.now+days≤100000):
  d8 Tryz.prog 97 [.pointer (some ⟨L.p,0,none⟩),.int .i64 days] h fun v h'=>St h0 h' (i4 Msg.enc 6 127 v (a3C C.ss U w days).2::n9 L C (.slice Au U.length cu) (a3C C.ss U w days).1::l):=by
 have hul:=hD.ul
 have hrl:=W.rl
 have htl:=W.tl
 have htg:=W.tg
 have hnow:=W.now
 obtain⟨now,hno⟩:∃now,now=w.s.now+days:=⟨_,rfl⟩
 obtain⟨D,hDD⟩:∃D,D=(O8 w.s.T now).map Tm.num:=⟨_,rfl⟩
 obtain⟨w0,hw0⟩:∃w0:Wk,w0={w with s:={w.s with now:=now,T:=O1 w.s.T now} }:=⟨_,rfl⟩
 have hTT:w.s.T=O8 w.s.T now++O1 w.s.T now:=(List.takeWhile_append_dropWhile).symm
 have hall:=W.tg.2
 rw[hTT,a1o]at hall
 have I0:Inv C U w0 1000 0:=a2B I (f:=id) (p:=fun _=>true) (by rw[hw0]) (by rw[hw0]) (by rw[hw0]) (fun x hx=>by rw[hw0]at hx;exact(List.dropWhile_sublist _).subset hx) (fun _=>⟨rfl,rfl,rfl⟩) (fun _ _ h=>by simp at h) (by rw[hw0,List.map_id,List.filter_eq_self.2 (fun _ _=>rfl)])
 have W0:w0.wf U m:=by rw[hw0];exact W.late (by omega)
 have hDn:D.Nodup:=by
  rw[hDD,List.Nodup,List.pairwise_map]
  exact hall.1
 have hDl:D.length≤100:=by
  rw[hDD,l_z]
  have:=(List.takeWhile_sublist (l:=w.s.T) (fun x=>decide (x.day≤now))).length_le
  unfold O8
  omega
 have hDm:∀n∈D,(1≤n∧n≤w0.s.R.length)∧∀x∈w0.s.T,x.num≠n:=fun n hn=>by
  rw[hDD]at hn
  obtain⟨y,hy,rfl⟩:=List.mem_map.1 hn
  have h1:=W.tn y (by rw[hTT];exact Y0 _ hy)
  refine⟨by rw[hw0];exact h1,fun x hx he=> ?_⟩
  rw[hw0]at hx
  exact hall.2.2 y hy x hx he.symm
 have hQ:a3C C.ss U w days=((x5 now (D.foldl (P7 C.ss U) w0).s.O).foldl (fun w m=>N4 w (m.rma-1).toNat 8) {D.foldl (P7 C.ss U) w0 with s:={(D.foldl (P7 C.ss U) w0).s with O:=y9 now (D.foldl (P7 C.ss U) w0).s.O} },A9 now (D.foldl (P7 C.ss U) w0).s.O):=by
  rw[hDD,hw0,hno]
  rfl
 rw[hQ]
 clear hQ
 have hfil:(w.s.T.filter fun x=>decide (x.day≤now)).map Tm.num=D:=by rw[a8s htg.1,hDD]
 have hstops:D.foldl without w.s.T=O1 w.s.T now:=by rw[hDD];exact b4b htg.2 now
 obtain⟨k,t,o,sd,vs,hv,S⟩:=St.mo.1 S
 obtain⟨At,ct,rfl⟩:=(St.p2 S).sl
 have F:=S.moF
 refine EN i97.eq_1 fun K hK=> ?_
 (try simp(disch:=first|omega|assumption|exact l_a rfl) only[go_sem,↓wBk,simprocAttr,F,x6,←hno])
 refine tS S rfl rfl (l_a rfl) ?_
 clear S F
 intro h S
 have S:St h0 h (moL L C (.slice Au U.length cu) {w with s:={w.s with now:=now} } k (.slice At w.s.T.length ct) o sd vs l):=S
 have F:=S.moF
 refine Wc F @x6.eq_1 ?_
 refine LKp (Nat.zero_add 0) [0,30] (fun ρ h'=>∃(i:Nat) (s5:Value),ρ 31= .int .i64 i∧i≤w.s.T.length∧ρ 5=s5∧St h0 h' (i4 i6 1 3 s5 (((w.s.T.take i).filter fun x=>decide (x.day≤now)).map Tm.num)::moL L C (.slice Au U.length cu) {w with s:={w.s with now:=now} } k (.slice At w.s.T.length ct) o sd vs l)) (fun ρ _=>w.s.T.length-(iv (ρ 31)).toNat) ?_ ?_
 ·refine Wa ?_
  exact⟨0,_,rfl,by omega,rfl,S.nilS⟩
 clear S F
 rintro ρ h J ⟨e0,e30⟩ hJ ⟨i,s5,e31,hi,e5,S⟩
 have F:=S.tl.moF
 obtain⟨A5,c5,rfl⟩:=S.sl
 refine Wc e30 e31 ?_
 refine cD (fun hlt=> ?_) (fun hlt=> ?_)
 ·have hil:i<w.s.T.length:=by omega
  have S3:=S.tl.p2
  obtain⟨bt,rfl⟩:=S3.ownAt (xs:=w.s.T) (by omega)
  have hp:=u2 s9 (D:=w.s.T) S3 (i:=i) (j:=0) hil (by omega)
  have hq:=u2 s9 (D:=w.s.T) S3 (i:=i) (j:=1) hil (by omega)
  simp only[tmE,l_o,l_p,H8]at hp hq
  have hs:((w.s.T.take (i+1)).filter fun x=>decide (x.day≤now)).map Tm.num=((w.s.T.take i).filter fun x=>decide (x.day≤now)).map Tm.num++if w.s.T[i].day≤now then [w.s.T[i].num]else []:=by
   rw[l_t hil,List.filter_append,L7]
   congr 1
   by_cases h:w.s.T[i].day≤now<;>simp[h]
  have hle:(((w.s.T.take i).filter fun x=>decide (x.day≤now)).map Tm.num).length≤i:=by
   rw[l_z]
   have:=List.length_filter_le (fun x:Tm=>decide (x.day≤now)) (w.s.T.take i)
   rw[x4]at this
   omega
  clear S3
  by_cases d:w.s.T[i].day≤now
  ·rw[if_pos d]at hs
   refine Wa ?_
   refine dE ?_
   refine Wi e0 e5 e31 F @x6.eq_1 hp hq d ?_
   refine tA S ?_
   clear S F hp hq
   intro g h S
   refine Wa ?_
   refine tA1 (bytes:=8) (x:=w.s.T[i].num) (xs:=((w.s.T.take i).filter fun x=>decide (x.day≤now)).map Tm.num) zEl (by omega) zEp rfl rfl S (by omega) (by omega) ?_
   clear S
   intro v h S
   refine Wb e31 ?_
   refine hJ _ _ ?_ ?_
   ·refine Wa ?_
    exact⟨i+1,_,rfl,by omega,rfl,by rw[hs];exact S⟩
   ·refine Wb e31 ?_
    omega
  ·rw[if_neg d,D9]at hs
   refine Wa ?_
   refine dE ?_
   refine Wi e0 e5 e31 F @x6.eq_1 hp hq d ?_
   refine hJ _ _ ?_ ?_
   ·refine Wb e5 ?_
    exact⟨i+1,_,rfl,by omega,rfl,by rw[hs];exact S⟩
   ·refine Wb e31 ?_
    omega
 obtain rfl:i=w.s.T.length:=by omega
 simp only[C9,hfil]at S e5
 clear hJ e30 e31 hi hlt hfil F
 have S:St h0 h (n9 L C (.slice Au U.length cu) {w with s:={w.s with now:=now} }::i4 i6 1 3 (.slice A5 D.length c5) D::l):=(St.mo.2 ⟨k,_,o,sd,vs,hv,S.perm b3D⟩:St h0 h (n9 L C (.slice Au U.length cu) {w with s:={w.s with now:=now} }::i4 i6 1 3 (.slice A5 D.length c5) D::l))
 clear hv
 refine Wb e5 ?_
 refine LKp (Pc e0 e5) [0,5,60] (fun ρ h'=>∃j:Nat,ρ 61= .int .i64 j∧j≤D.length∧St h0 h' (n9 L C (.slice Au U.length cu) {w with s:={w.s with now:=now,T:=(D.take j).foldl without w.s.T} }::i4 i6 1 3 (.slice A5 D.length c5) D::l)) (fun ρ _=>D.length-(iv (ρ 61)).toNat) ?_ ?_
 ·refine Wa ?_
  exact⟨0,rfl,by omega,S⟩
 clear S e0 e5
 rintro ρ h J ⟨e0,e5,e60⟩ hJ ⟨j,e61,hj,S⟩
 refine Wc e60 e61 ?_
 refine cD (fun hlt=> ?_) (fun hlt=> ?_)
 ·have hjl:j<D.length:=by omega
  obtain⟨b1,o1,hA1,q1⟩:=(S.p1.arr zEl).at hjl
  have q1:=rP0 q1 (by omega)
  simp only[i6,l_o,m9]at q1
  have hsl:∀k:Nat,(D.take k).foldl without w.s.T=(D.take k).foldl without w.s.T:=fun _=>rfl
  have hlen:∀(Q:List Int) (T:List Tm),(Q.foldl without T).length≤T.length:=fun Q=>by
   induction Q with
   |nil=>intro T;exact x9 _
   |cons a Q ih=>intro T;exact Z0 (ih _) (List.length_filter_le _ _)
  have hstep:(D.take (j+1)).foldl without w.s.T=without ((D.take j).foldl without w.s.T) D[j]:=by
   rw[l_t hjl,List.foldl_append]
   rfl
  refine Wg e0 e5 e61 hA1 q1 @m9 ?_
  refine cV (a2T D[j] S (by have:=hlen (D.take j) w.s.T;show((D.take j).foldl without w.s.T).length<_;omega)) ?_
  clear S q1
  intro h S
  refine Wb e61 ?_
  refine hJ _ _ ?_ ?_
  ·refine Wa ?_
   exact⟨j+1,rfl,by omega,by rw[hstep];exact S⟩
  ·refine Wb e61 ?_
   omega
 obtain rfl:j=D.length:=by omega
 rw[C9,hstops,←hw0]at S
 clear hJ e60 e61 hj hlt hstops
 refine Wb e5 ?_
 refine LKp (Pc e0 e5) [0,5,72] (fun ρ h'=>∃j:Nat,ρ 73= .int .i64 j∧j≤D.length∧St h0 h' (n9 L C (.slice Au U.length cu) ((D.take j).foldl (P7 C.ss U) w0)::i4 i6 1 3 (.slice A5 D.length c5) D::l)) (fun ρ _=>D.length-(iv (ρ 73)).toNat) ?_ ?_
 ·refine Wa ?_
  exact⟨0,rfl,by omega,S⟩
 clear S e0 e5
 rintro ρ h J ⟨e0,e5,e72⟩ hJ ⟨j,e73,hj,S⟩
 refine Wc e72 e73 ?_
 refine cD (fun hlt=> ?_) (fun hlt=> ?_)
 ·have hjl:j<D.length:=by omega
  obtain⟨hDj,-⟩:=hDm _ (l_v hjl)
  have hsub:∀n∈D.take j,(1≤n∧n≤w0.s.R.length)∧∀x∈w0.s.T,x.num≠n:=fun n hn=>hDm n (a1O hn)
  obtain⟨-,Ij,Wj⟩:=a2w hD (l:=D.take j) I0 W0 (hDn.sublist (List.take_sublist _ _)) hsub
  have hlj:=a8W hD (l:=D.take j) I0 W0 (hDn.sublist (List.take_sublist _ _)) hsub
  have Wj:=Wj.up (m':=m+200) (by rw[x4];omega)
  have hstep:(D.take (j+1)).foldl (P7 C.ss U) w0=P7 C.ss U ((D.take j).foldl (P7 C.ss U) w0) D[j]:=by
   rw[l_t hjl,List.foldl_append]
   rfl
  obtain⟨b1,o1,hA1,q1⟩:=(S.p1.arr zEl).at hjl
  have q1:=rP0 q1 (by omega)
  simp only[i6,l_o,m9]at q1
  obtain⟨i,hi⟩:∃i:Nat,D[j]=(i:Int)+1:=⟨(D[j]-1).toNat,by omega⟩
  rw[hi]at q1 hstep hDj
  generalize (D.take j).foldl (P7 C.ss U) w0=wj at*
  have hil:i<wj.s.R.length:=by omega
  have hrlj:=Wj.rl
  have hdue:P7 C.ss U wj ((i:Int)+1)=if(wj.R i).state=3 then a3z C.ss U wj i else if(wj.R i).state=1∨(wj.R i).state=2 then N4 wj i 8 else wj:=by
   unfold P7
   rw[show((i:Int)+1-1).toNat=i by omega]
  rw[hdue]at hstep
  clear hdue
  have hri':(i:Int)+1-1=(i:Int):=by omega
  obtain⟨b,hA⟩:∃b,L.A=some ⟨b,0,none⟩:=by
   obtain⟨k,t,o,sd,vs,hv,S⟩:=St.mo.1 S
   exact(St.p4 S).ownAt (by rw[←l_z (f:=i0.r),hv];omega)
  have FR:=S.mrR
  rw[hA]at FR
  have q6:rd1 h (.pointer (some ⟨b,i*14+6,none⟩))=some (.int .i64 (wj.R i).state):=S.mrRet hA hil (j:=6) (by omega) (by omega)
  have hnm:=(Ij.ret i hil).num
  refine Wa ?_
  refine dE ?_
  by_cases s12:(wj.R i).state=1∨(wj.R i).state=2
  ·have s3:¬(wj.R i).state=3:=by omega
   rw[if_neg s3,if_pos s12]at hstep
   obtain⟨hs8,hl8⟩:=b8O hil 8
   rcases s12 with s1|s1
   all_goals
    refine Wi e0 e5 e73 @FR hA1 q1 @m9 (Pd hri' q6 s1) ?_
    refine cV (a4s 8 S Wj hul (by omega) hA hil hnm) ?_
    clear S q1 FR q6
    intro h S
    have q6:rd1 h (.pointer (some ⟨b,i*14+6,none⟩))=some (.int .i64 8):=by rw[←hs8];exact S.mrRet hA (by omega) (j:=6) (by omega) (by omega)
    refine Wc q6 e73 ?_
    refine hJ _ _ ?_ ?_
    ·refine Wa ?_
     exact⟨j+1,rfl,by omega,by rw[hstep];exact S⟩
    ·refine Wb e73 ?_
     omega
  have s1:¬(wj.R i).state=1:=fun h=>s12 (.inl h)
  have s2:¬(wj.R i).state=2:=fun h=>s12 (.inr h)
  by_cases s3:(wj.R i).state=3
  case neg=>
   rw[if_neg s3,if_neg s12]at hstep
   refine Wi e0 e5 e73 @FR hA1 q1 @m9 (Pf hri' q6 s1 s2 s3) ?_
   refine hJ _ _ ?_ ?_
   ·refine Wa ?_
    exact⟨j+1,rfl,by omega,by rw[hstep];exact S⟩
   ·refine Wb e73 ?_
    omega
  rw[if_pos s3]at hstep
  obtain⟨A8,c8,q8,-⟩:=S.mrUs hA hil
  refine Wi e0 e5 e73 @FR hA1 q1 @m9 (Pe hri' q6 s3 q8) ?_
  have B0:=b4A hD Ij (Int.le_refl 0) Wj
  have hgl:=Wj.len _ (C5 hil)
  have hok:=Wj.rr _ (C5 hil)
  refine LKp (Pd e0 e5 (Pc e72 e73)) [0,5,9,72,73,110] (fun ρ h'=>∃k:Nat,ρ 111= .int .i64 k∧k≤(wj.R i).us.length∧St h0 h' (n9 L C (.slice Au U.length cu) (u7 U wj i k)::i4 i6 1 3 (.slice A5 D.length c5) D::l)) (fun ρ _=>(wj.R i).us.length-(iv (ρ 111)).toNat) ?_ ?_
  ·refine Wa ?_
   exact⟨0,rfl,by omega,S⟩
  clear S q1 FR q6 q8
  have p73:=e73
  clear e0 e5 e72 e73
  rintro ρ h J2 ⟨e0,e5,e9,e72,e73,e110⟩ hJ2 ⟨k,e111,hk,S⟩
  obtain⟨Wk,hlk,huk⟩:=a4G (U:=U) hil Wj k
  have hik:i<(u7 U wj i k).s.R.length:=by omega
  refine Wc e110 e111 ?_
  refine cD (fun hlt2=> ?_) (fun hlt2=> ?_)
  ·have hkl:k<(wj.R i).us.length:=by omega
   obtain⟨un,hun⟩:∃un:Nat,(wj.R i).us[k]=un:=l_u (by have:=(hok.1.2.2 k hkl).1.1;rwa[l7 hkl]at this)
   have hunU:un<U.length:=by have:=hok.2 _ (l_v hkl);omega
   have hlo:u7 U wj i (k+1)=((u7 U wj i k).mv un 6).put i {(u7 U wj i k).R i with gs:=((u7 U wj i k).R i).gs.set k 4,worth:=w64 (((u7 U wj i k).R i).worth+(j9 U (un:Int)).share)}:=by
    show((u7 U wj i k).mv (((u7 U wj i k).R i).us.getD k 0) 6).put i _=_
    rw[huk,l7 hkl,hun]
   have hgk:k<((u7 U wj i k).R i).gs.length:=by rw[(Wk.len _ (C5 hik)).2,huk];exact hkl
   have hkl2:=Wk.kl
   generalize u7 U wj i k=v at*
   obtain⟨A8,c8,q8,h8⟩:=S.mrUs hA hik
   rw[huk]at q8 h8
   obtain⟨b8,o8,hA8,q9⟩:=h8.at hkl
   rw[hA8]at q8
   have q9:=rP0 q9 (by omega)
   simp only[i6,l_o,m9]at q9
   rw[hun]at q9
   refine Wg e0 e9 e111 q8 q9 @m9 ?_
   refine cV (Q3 (un:Int) 6 S (by omega)) ?_
   clear S q8 q9 hA8 h8
   intro h S
   obtain⟨bg,dg,qg,-,hst⟩:=S.moGs hA hik (show 0<((v.mv un 6).R i).gs.length by rw[mv_R];omega)
   have hgk2:k<((v.mv un 6).R i).gs.length:=hgk
   refine Wd e9 e111 qg ?_
   refine hst k _ 4 _ _ _ hgk (by rw[m9]) ?_
   clear S qg hst
   intro h S
   have hR1:((v.mv un 6).put i {(v.mv un 6).R i with gs:=((v.mv un 6).R i).gs.set k 4}).R i={v.R i with gs:=(v.R i).gs.set k 4}:=E0 (w:=v.mv un 6) hik
   have hi1:i<((v.mv un 6).put i {(v.mv un 6).R i with gs:=((v.mv un 6).R i).gs.set k 4}).s.R.length:=by rw[o7];exact hik
   have hpp:∀N:Int,((v.mv un 6).put i {(v.mv un 6).R i with gs:=((v.mv un 6).R i).gs.set k 4}).put i {((v.mv un 6).put i {(v.mv un 6).R i with gs:=((v.mv un 6).R i).gs.set k 4}).R i with worth:=N}=(v.mv un 6).put i {v.R i with gs:=(v.R i).gs.set k 4,worth:=N}:=fun N=>by rw[b5t,hR1]
   rw[←hpp]at hlo
   clear hpp
   have hwo:(((v.mv un 6).put i {(v.mv un 6).R i with gs:=((v.mv un 6).R i).gs.set k 4}).R i).worth=(v.R i).worth:=by rw[hR1]
   have hus:(((v.mv un 6).put i {(v.mv un 6).R i with gs:=((v.mv un 6).R i).gs.set k 4}).R i).us=(wj.R i).us:=by rw[hR1];exact huk
   rw[←hwo]at hlo
   generalize (v.mv un 6).put i {(v.mv un 6).R i with gs:=((v.mv un 6).R i).gs.set k 4}=v1 at*
   clear hR1 hwo hgk hgk2 huk hik Wk hkl2
   obtain⟨A8,c8,q8,h8⟩:=S.mrUs hA hi1
   rw[hus]at q8 h8
   obtain⟨b8,o8,hA8,q9⟩:=h8.at hkl
   rw[hA8]at q8
   have q9:=rP0 q9 (by omega)
   simp only[i6,l_o,m9]at q9
   rw[hun]at q9
   have q10:rd1 h (.pointer (some ⟨b,i*14+10,none⟩))=some (.int .i64 (v1.R i).worth):=S.mrRet hA hi1 (j:=10) (by omega) (by omega)
   have qU:=S.mrU
   obtain⟨b4,o4,hA4,q4⟩:=(hu _ S.tl.tl).at hunU
   rw[hA4]at qU
   have q43:=rP q4 3 (by omega)
   simp only[Unt.enc,l_o,l_p]at q43
   have hat:j9 U (un:Int)=U[un]:=by rw[j9,K0,l_s,l_r hunU];rfl
   rw[←hat]at q43
   refine Wa ?_
   refine dE ?_
   refine Wi e0 e9 e111 q8 q9 q10 qU (Pc q43 @m9) ?_
   refine L8 (r':={v1.R i with worth:=w64 ((v1.R i).worth+(j9 U (un:Int)).share)}) S hA hi1 (j:=10) (by omega) rfl rfl rfl (fun x hx=>by rw[i0.enc,i0.enc,hx];rfl) ?_
   clear S q8 q9 q10 qU q43 q4 h8
   intro h S
   refine Wb e111 ?_
   refine hJ2 _ _ ?_ ?_
   ·refine Wa ?_
    exact⟨k+1,rfl,by omega,by rw[hlo];exact S⟩
   ·refine Wb e111 ?_
    omega
  obtain rfl:k=(wj.R i).us.length:=by omega
  have hwl:=I7 hD (Ij.ret i hil) hgl
  have hls:u7 U wj i (wj.R i).us.length=t7 (wj.put i (a2G U (wj.R i))) (wj.R i).us 6:=by
   rw[a5w hD rfl hil hgl.2 hwl.1 _ (x9 _) (by omega),C9,List.drop_of_length_le (by omega),D9]
   rfl
  have hlq:a3z C.ss U wj i=N2 C.ss (u7 U wj i (wj.R i).us.length) i:=by rw[hls];rfl
  rw[hlq]at hstep
  have hw:0≤((u7 U wj i (wj.R i).us.length).R i).worth∧((u7 U wj i (wj.R i).us.length).R i).worth≤2199023255552:=by
   have e:(u7 U wj i (wj.R i).us.length).R i=a2G U (wj.R i):=by
    rw[hls,K2]
    exact E0 hil
   have:=a9J hD.sh (wj.R i).us
   rw[e]
   show 0≤(wj.R i).worth+_∧(wj.R i).worth+_≤_
   omega
  refine Wc e0 e9 ?_
  refine cV (a7Z (fun h' S=>hc h' S.tl) hD S Wk (by omega) (b1m B0 _) (by omega) hw hA hik) ?_
  clear S
  intro h S
  refine Wb e73 ?_
  refine hJ _ _ ?_ ?_
  ·refine Wa ?_
   exact⟨j+1,rfl,by omega,by rw[hstep];exact S⟩
  ·refine Wc p73 e73 ?_
   omega
 obtain rfl:j=D.length:=by omega
 rw[C9]at S
 obtain⟨-,I1,W1⟩:=a2w hD (l:=D) I0 W0 hDn hDm
 have W1:=W1.up (m':=m+200) (by omega)
 have hn1:(D.foldl (P7 C.ss U) w0).s.now=now:=by rw[b1v,hw0]
 generalize D.foldl (P7 C.ss U) w0=w1 at*
 have S:=S.d1
 clear hJ e72 e73 hj hlt e5
 have hol:=W1.ol
 obtain⟨k,t,o,sd,vs,hv,S⟩:=St.mo.1 S
 obtain⟨Ao,co,rfl⟩:=(St.p3 S).sl
 have F:=S.moF
 refine Wd e0 F @x6.eq_1 ?_
 refine LKp e0 [0,160] (fun ρ h'=>∃(j:Nat) (s11 s12 s13:Value),ρ 161= .int .i64 j∧j≤w1.s.O.length∧ρ 11=s11∧ρ 12=s12∧ρ 13=s13∧St h0 h' (i4 Msg.enc 6 127 s11 (A9 now (w1.s.O.take j))::i4 Msg.enc 6 127 s12 (y9 now (w1.s.O.take j))::i4 i6 1 3 s13 ((x5 now (w1.s.O.take j)).map Msg.rma)::
  moL L C (.slice Au U.length cu) w1 k t (.slice Ao w1.s.O.length co) sd vs l)) (fun ρ _=>w1.s.O.length-(iv (ρ 161)).toNat) ?_ ?_
 ·refine Wa ?_
  exact⟨0,_,_,_,rfl,by omega,rfl,rfl,rfl,S.nilS.nilS.nilS⟩
 clear S F e0
 rintro ρ h J ⟨e0,e160⟩ hJ ⟨j,s11,s12,s13,e161,hj,e11,e12,e13,S⟩
 refine Wc e160 e161 ?_
 refine cD (fun hlt=> ?_) (fun hlt=> ?_)
 ·have hjl:j<w1.s.O.length:=by omega
  have hs:=P3 (K9 now) w1.s.O j hjl
  have hf:=P3 (K6 now) w1.s.O j hjl
  have hg:=P3 (F7 now) w1.s.O j hjl
  have l1:=F6 (K9 now) (a4T now) (w1.s.O.take j)
  have l2:=F6 (K6 now) (a7y now) (w1.s.O.take j)
  have l3:=F6 (F7 now) (a3b now) (w1.s.O.take j)
  rw[x4]at l1 l2 l3
  have hs:A9 now (w1.s.O.take (j+1))=A9 now (w1.s.O.take j)++K9 now w1.s.O[j]:=hs
  have hf:y9 now (w1.s.O.take (j+1))=y9 now (w1.s.O.take j)++K6 now w1.s.O[j]:=hf
  have hg:x5 now (w1.s.O.take (j+1))=x5 now (w1.s.O.take j)++F7 now w1.s.O[j]:=hg
  have l1:(A9 now (w1.s.O.take j)).length≤j:=by show(List.flatMap _ _).length≤j;omega
  have l2:(y9 now (w1.s.O.take j)).length≤j:=by show(List.flatMap _ _).length≤j;omega
  have l3:((x5 now (w1.s.O.take j)).map Msg.rma).length≤j:=by rw[l_z];show(List.flatMap _ _).length≤j;omega
  have htr:=W1.ot _ (l_v hjl)
  have F:=S.tl.tl.tl.moF
  have F14:=F 14
  simp only[x6,l_o,l_p,hn1]at F14
  have q6:∃bo,Ao=some ⟨bo,0,none⟩∧rdN h bo (j*6) 6=some w1.s.O[j].enc:=by
   obtain⟨bo,hbo⟩:=(St.p3 S.tl.tl.tl).ownAt (xs:=w1.s.O) (by omega)
   obtain⟨b',o',e,q⟩:=((St.p3 S.tl.tl.tl).arr enc_len).at hjl
   rw[hbo]at e
   cases e
   rw[Nat.zero_add]at q
   exact⟨bo,hbo,q⟩
  obtain⟨bo,hbo,q6⟩:=q6
  rw[hbo]at F
  generalize w1.s.O[j]=x at*
  have hx6:x.enc.length=6:=rfl
  refine Wg e0 e161 F @x6.eq_1 q6 hx6 ?_
  refine tA S ?_
  clear S F F14 q6
  intro q h S
  refine Wb hx6 ?_
  refine tS S rfl rfl (l_a rfl) ?_
  clear S
  intro h S
  have S:St h0 h (d9 q x.enc 127::i4 Msg.enc 6 127 s11 (A9 now (w1.s.O.take j))::i4 Msg.enc 6 127 s12 (y9 now (w1.s.O.take j))::i4 i6 1 3 s13 ((x5 now (w1.s.O.take j)).map Msg.rma)::
   moL L C (.slice Au U.length cu) w1 k t (.slice Ao w1.s.O.length co) sd vs l):=S
  have hF14:∀{h':c9}{A B D E:HP},St h0 h' (A::B::D::E::moL L C (.slice Au U.length cu) w1 k t (.slice Ao w1.s.O.length co) sd vs l)→rd1 h' (.pointer (some ⟨L.p,14,none⟩))=some (.int .i64 now):=fun S=>by rw[←hn1];exact S.tl.tl.tl.tl.moF 14
  have F14:=hF14 S
  have F:∀off,rd1 h (.pointer (some ⟨q,off,none⟩))=x.enc[off]? :=fun off=>j3 S.blk
  by_cases d1:now<x.due
  ·have a1:K9 now x=[]:=if_pos d1
   have a2:K6 now x=[x]:=if_pos d1
   have a3:F7 now x=[]:=if_pos d1
   rw[a1,D9]at hs
   rw[a2]at hf
   rw[a3,D9]at hg
   have d1':¬x.due≤now:=by omega
   have FN:rdN h q 0 6=some x.enc:=by rw[v8 S.blk (x9 6)];rfl
   refine Wa ?_
   refine dE ?_
   refine Wf e0 F @F14 @Msg.enc.eq_1 d1' ?_
   refine dE ?_
   refine Wg e0 F @F14 @Msg.enc.eq_1 d1' e12 ?_
   simp only[FN]
   refine Wb hx6 ?_
   refine tA S ?_
   clear S F F14 FN
   intro g h S
   refine Wa ?_
   refine tA1 (bytes:=48) (x:=x) (xs:=y9 now (w1.s.O.take j)) enc_len (by omega) enc_plain rfl rfl S.p3.p1 (by omega) (by omega) ?_
   clear S
   intro v h S
   refine Wb e161 ?_
   refine hJ _ _ ?_ ?_
   ·refine Wc e11 e13 ?_
    exact⟨j+1,_,_,_,rfl,by omega,rfl,rfl,rfl,by rw[hs,hf,hg];exact S.d1.p1⟩
   ·refine Wb e161 ?_
    omega
  have d1':x.due≤now:=by omega
  by_cases d2:x.kind=1∧x.tries≥5
  ·have a1:K9 now x=[]:=by unfold K9;rw[if_neg d1,if_pos d2]
   have a2:K6 now x=[]:=by unfold K6;rw[if_neg d1,if_pos d2]
   have a3:F7 now x=[x]:=by unfold F7;rw[if_neg d1,if_pos d2]
   rw[a1,D9]at hs
   rw[a2,D9]at hf
   rw[a3]at hg
   obtain⟨d2,d3⟩:=d2
   refine Wa ?_
   refine dE ?_
   refine Wi e0 F @F14 @Msg.enc.eq_1 d1' d2 d3 e13 ?_
   refine tA S ?_
   clear S F F14
   intro g h S
   refine Wa ?_
   refine tA1 (bytes:=8) (x:=x.rma) (xs:=(x5 now (w1.s.O.take j)).map Msg.rma) zEl (by omega) zEp rfl rfl S.p4.p1 (by omega) (by omega) ?_
   clear S
   intro v h S
   refine Wb e161 ?_
   refine hJ _ _ ?_ ?_
   ·refine Wc e11 e12 ?_
    exact⟨j+1,_,_,_,rfl,by omega,rfl,rfl,rfl,by rw[hs,hf,hg,L7];exact S.d1.p2.p2⟩
   ·refine Wb e161 ?_
    omega
  have a1:K9 now x=[x.bump now]:=by unfold K9;rw[if_neg d1,if_neg d2]
  have a2:K6 now x=[x.bump now]:=by unfold K6;rw[if_neg d1,if_neg d2]
  have a3:F7 now x=[]:=by unfold F7;rw[if_neg d1,if_neg d2]
  rw[a1]at hs
  rw[a2]at hf
  rw[a3,D9]at hg
  have hw8:=b0L (x.tries+1)
  have hh:¬x.kind=1∨x.kind=1∧¬5≤x.tries:=by omega
  rcases hh with hh|hh
  all_goals
   refine Wa ?_
   refine dE ?_
   refine Wg e0 F @F14 @Msg.enc.eq_1 d1' hh ?_
   refine dE ?_
   refine Wf e0 F @F14 @Msg.enc.eq_1 d1' ?_
   refine tS S rfl rfl (l_a rfl) ?_
   clear S F F14
   intro h S
   rw[Msg.enc]at S
   replace S:=S.nm
   have F14:=hF14 S
   have F:=m8 (off:=4) S
   simp only[l_o,l_p]at F
   refine Wa ?_
   refine dE ?_
   refine Wd e0 F @F14 ?_
   refine cI (b2U (x.tries+1) _ (by omega)) ?_
   rintro _ _ ⟨rfl,rfl⟩
   refine⟨rfl,?_⟩
   refine Wa ?_
   refine tS S rfl rfl (l_a rfl) ?_
   clear S F F14
   intro h S
   replace S:=S.nm
   have S:St h0 h (d9 q (x.bump now).enc 127::i4 Msg.enc 6 127 s11 (A9 now (w1.s.O.take j))::i4 Msg.enc 6 127 s12 (y9 now (w1.s.O.take j))::i4 i6 1 3 s13 ((x5 now (w1.s.O.take j)).map Msg.rma)::
    moL L C (.slice Au U.length cu) w1 k t (.slice Ao w1.s.O.length co) sd vs l):=S
   have FN:rdN h q 0 6=some (x.bump now).enc:=by rw[v8 S.blk (x9 6)];rfl
   have hb6:(x.bump now).enc.length=6:=rfl
   refine Wd e11 @FN hb6 ?_
   refine tA S ?_
   clear S FN
   intro g h S
   refine Wa ?_
   refine tA1 (bytes:=48) (x:=x.bump now) (xs:=A9 now (w1.s.O.take j)) enc_len (by omega) enc_plain rfl rfl S.p2.p1 (by omega) (by omega) ?_
   clear S
   intro v h S
   have FN:rdN h q 0 6=some (x.bump now).enc:=by rw[v8 S.p1.blk (x9 6)];rfl
   refine Wd e12 @FN hb6 ?_
   refine tA S ?_
   clear S FN
   intro g h S
   refine Wa ?_
   refine tA1 (bytes:=48) (x:=x.bump now) (xs:=y9 now (w1.s.O.take j)) enc_len (by omega) enc_plain rfl rfl S.p3.p1 (by omega) (by omega) ?_
   clear S
   intro v2 h S
   refine Wb e161 ?_
   refine hJ _ _ ?_ ?_
   ·refine Wb e13 ?_
    exact⟨j+1,_,_,_,rfl,by omega,rfl,rfl,rfl,by rw[hs,hf,hg];exact S.p1.p2.tl⟩
   ·refine Wb e161 ?_
    omega
 obtain rfl:j=w1.s.O.length:=by omega
 simp only[C9]at S
 clear hJ e160 e161 hj hlt
 obtain⟨A12,c12,rfl⟩:=S.p1.sl
 obtain⟨A13,c13,rfl⟩:=S.p2.sl
 have S:=S.p1.perm (List.Perm.cons _ ((List.Perm.cons _ b3D).trans b3D))
 obtain⟨w2,hw2⟩:∃w2:Wk,w2={w1 with s:={w1.s with O:=y9 now w1.s.O} }:=⟨_,rfl⟩
 obtain⟨G,hG⟩:∃G,G=x5 now w1.s.O:=⟨_,rfl⟩
 rw[←hw2,←hG]at hK
 rw[←hG]at S e13
 refine Wc e0 e12 ?_
 refine b4a hv S ?_
 clear S hv
 intro h S
 rw[←hw2]at S
 have I2:Inv C U w2 1000 0:=a2B I1 (f:=a9k now) (p:=a9l now) (by rw[hw2]) (by rw[hw2]) (by rw[hw2]) (fun x hx=>by rw[hw2]at hx;exact hx) (fun x=>by unfold a9k;split<;>exact⟨rfl,rfl,rfl⟩) (fun x _ h=>by unfold a9l at h;simp at h;exact h.2.1) (by rw[hw2];exact b0n _ _)
 have W2:=W1.left now
 rw[←hw2]at W2
 have hgp:G.Pairwise (fun a b=>a.rma≠b.rma):=by
  rw[hG]
  have:=I1.cls.sublist (a5p now w1.s.O)
  rw[List.pairwise_iff_forall_sublist]at this⊢
  intro x y hxy he
  have hx:=(a0e (hxy.subset (by simp:x∈[x,y]))).2
  have hy:=(a0e (hxy.subset (by simp:y∈[x,y]))).2
  exact this hxy ⟨by omega,.inl ⟨.inl hx,he⟩⟩
 have hgm:∀x∈G,(1≤x.rma∧x.rma≤w2.s.R.length)∧(w2.R (x.rma-1).toNat).state=1:=fun x hx=>by
  rw[hG]at hx
  obtain⟨h1,h2⟩:=a0e hx
  have h3:=I1.msg x h1
  rw[hw2]
  exact⟨h3.rma,h3.k1 h2⟩
 have hgl:G.length≤200000:=by
  have h3:(x5 now w1.s.O).length≤w1.s.O.length:=F6 (F7 now) (a3b now) w1.s.O
  have:=W1.ol
  rw[hG]
  omega
 clear hw2 hG
 refine Wb e13 ?_
 rw[l_z]
 refine LKp (Pd e0 e11 e13) [0,11,13,227] (fun ρ h'=>∃j:Nat,ρ 228= .int .i64 j∧j≤G.length∧St h0 h' (n9 L C (.slice Au U.length cu) ((G.take j).foldl (fun w x=>N4 w (x.rma-1).toNat 8) w2)::i4 Msg.enc 6 127 s11 (A9 now w1.s.O)::i4 i6 1 3 (.slice A13 (G.map Msg.rma).length c13) (G.map Msg.rma)::l)) (fun ρ _=>G.length-(iv (ρ 228)).toNat) ?_ ?_
 ·refine Wa ?_
  exact⟨0,rfl,by omega,S⟩
 clear S e0 e11 e12 e13
 rintro ρ h J ⟨e0,e11,e13,e227⟩ hJ ⟨j,e228,hj,S⟩
 refine Wc e227 e228 ?_
 refine cD (fun hlt=> ?_) (fun hlt=> ?_)
 ·have hjl:j<G.length:=by omega
  have hjm:j<(G.map Msg.rma).length:=by rw[l_z];exact hjl
  obtain⟨⟨hr1,hr2⟩,-⟩:=hgm _ (l_v hjl)
  have hsub:∀x∈G.take j,(1≤x.rma∧x.rma≤w2.s.R.length)∧(w2.R (x.rma-1).toNat).state=1:=fun x hx=>hgm x (a1O hx)
  obtain⟨-,Ij⟩:=a7l (l:=G.take j) I2 W2 (hgp.sublist (List.take_sublist _ _)) hsub
  obtain⟨Wj,hlj⟩:=b1w (G:=G.take j) W2 (fun x hx=>(hsub x hx).1)
  have hstep:(G.take (j+1)).foldl (fun w x=>N4 w (x.rma-1).toNat 8) w2=N4 ((G.take j).foldl (fun w x=>N4 w (x.rma-1).toNat 8) w2) (G[j].rma-1).toNat 8:=by
   rw[l_t hjl,List.foldl_append]
   rfl
  obtain⟨b1,o1,hA1,q1⟩:=(S.p2.arr zEl).at hjm
  have q1:=rP0 q1 (by omega)
  simp only[i6,l_o,m9,Y9]at q1
  obtain⟨i,hi⟩:∃i:Nat,G[j].rma=(i:Int)+1:=⟨(G[j].rma-1).toNat,by omega⟩
  rw[hi]at q1 hstep hr2
  rw[show((i:Int)+1-1).toNat=i by omega]at hstep
  generalize (G.take j).foldl (fun w x=>N4 w (x.rma-1).toNat 8) w2=wj at*
  have hil:i<wj.s.R.length:=by omega
  have hrlj:=Wj.rl
  have hri':(i:Int)+1-1=(i:Int):=by omega
  obtain⟨b,hA⟩:∃b,L.A=some ⟨b,0,none⟩:=by
   obtain⟨k,t,o,sd,vs,hv,S⟩:=St.mo.1 S
   exact(St.p4 S).ownAt (by rw[←l_z (f:=i0.r),hv];omega)
  have FR:=S.mrR
  rw[hA]at FR
  have hnm:=(Ij.ret i hil).num
  refine Wa ?_
  refine dE ?_
  refine Wi e0 e13 e228 @FR hA1 q1 @m9 hri' ?_
  refine cV (a4s 8 S Wj hul (by omega) hA hil hnm) ?_
  clear S q1 FR
  intro h S
  refine Wb e228 ?_
  refine hJ _ _ ?_ ?_
  ·refine Wa ?_
   exact⟨j+1,rfl,by omega,by rw[hstep];exact S⟩
  ·refine Wb e228 ?_
   omega
 obtain rfl:j=G.length:=by omega
 rw[C9]at S
 refine Wb e11 ?_
 exact hK _ _ S.p2.tl.p1
end
end
end Go.Proofs.YtjagmebglhbdkaaGreat.MX
