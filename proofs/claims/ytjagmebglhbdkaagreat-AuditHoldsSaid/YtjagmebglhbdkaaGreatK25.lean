import Derived.Test.YtjagmebglhbdkaaGreatK21
import Derived.Test.YtjagmebglhbdkaaGreatK24
import Derived.Test.YtjagmebglhbdkaaGreatK13
import Derived.Test.YtjagmebglhbdkaaGreatK23
namespace Go.Proofs.YtjagmebglhbdkaaGreat.MX
open Go Go.Proofs
set_option linter.unusedSimpArgs false
set_option linter.unusedVariables false
section
set_option maxHeartbeats 4000000
theorem b9X{α:Type}(f:α→Nat){a b:List α}(h:a.Perm b):(a.map f).sum=(b.map f).sum:=by
 induction h with
 |nil=>rfl
 |cons x _ ih=>simp only[G7,K1,ih]
 |swap x y l=>simp only[G7,K1];omega
 |trans _ _ ih1 ih2=>rw[ih1,ih2]
theorem a4c{α:Type}(f:α→Nat)(M:Nat):∀{T:List α},(∀z∈T,f z≤M)→(T.map f).sum≤T.length*M∧∀x∈T,f x=0→(T.map f).sum+M≤T.length*M
 | [],_=>⟨by simp,fun x hx=>by cases hx⟩
 |y::T,h=>by
  obtain⟨h1,h2⟩:=a4c f M (T:=T) fun z hz=>h z (by simp[hz])
  have hy:=h y (by simp)
  simp only[G7,K1,l_f,Nat.succ_mul]
  refine⟨by omega,fun x hx h0=> ?_⟩
  rcases List.mem_cons.1 hx with rfl|hx
  ·omega
  ·have:=h2 x hx h0;omega
theorem J8.le{sum all:Nat}{ws:List Nat}{out:List Int}(H:J8 sum all ws out)(hall:0<all)(he:ws.sum=all)(hle:sum≤all):∀i (hi:i<ws.length),out.getD i 0≤(ws[i]:Nat):=by
 obtain⟨Z,hp,hs,rfl⟩:=H
 obtain⟨hl1,hl2⟩:=a2F hall he (sum:=sum)
 have hZl:Z.length=ws.length:=by rw[hp.length_eq,a3j]
 have hql:((v9 sum all ws).map Int.ofNat).length=ws.length:=by rw[l_z,a0A]
 have hZd:∀z∈Z,0≤z∧z<(((v9 sum all ws).map Int.ofNat).length:Int):=fun z hz=>by rw[hql];exact a0j.1 (hp.mem_iff.1 hz)
 have hZn:Z.Nodup:=hp.nodup_iff.2 (Y3 _)
 have htd:∀z∈Z.take (sum-(v9 sum all ws).sum),0≤z∧z<(((v9 sum all ws).map Int.ofNat).length:Int):=fun z hz=>hZd z (a1O hz)
 have hg:=b1o _ _ (hZn.sublist (List.take_sublist (sum-(v9 sum all ws).sum) Z)) htd
 intro i hi
 have hq:((v9 sum all ws).map Int.ofNat).getD i 0=((sum*ws[i]/all:Nat):Int):=by
  rw[l_s,l_r (by rw[hql];exact hi)]
  simp only[v9,Y9]
  rfl
 rw[hg i (by rw[hql];exact hi),hq]
 have hqr:=b2q sum all ws
 rw[he]at hqr
 by_cases c1:sum=all
 ·have hqw:v9 sum all ws=ws:=by
   rw[v9,c1]
   conv=>rhs;rw[←List.map_id ws]
   exact List.map_congr_left fun w _=>by rw[a0w,Nat.mul_div_cancel _ hall];rfl
  rw[hqw,he,c1,Nat.sub_self,a2j,if_neg (by simp),a0w,Nat.mul_div_cancel _ hall]
  omega
 ·by_cases c2:ws[i]=0
  ·rw[if_neg,c2,Nat.mul_zero,Nat.zero_div]
   ·simp
   ·intro hm
    have hr0:(D5 sum all ws).getD ((i:Int).toNat) 0=0:=by
     simp only[K0,D5,l_s,a0H,l_r hi,c2]
     simp
    have hrl:∀z:Int,(D5 sum all ws).getD z.toNat 0≤all-1:=fun z=>by
     rw[l_s,D5,a0H]
     cases ws[z.toNat]? with
     |none=>simp
     |some w=>
      have:=Nat.mod_lt (sum*w) hall
      simp only[Option.map_some,Option.getD_some]
      omega
    have hsz:(Z.map fun z:Int=>(D5 sum all ws).getD z.toNat 0).sum=(D5 sum all ws).sum:=by
     rw[b9X _ hp]
     congr 1
     apply List.ext_getElem
     ·simp[Q4,D5]
     ·intro k h1 h2
      simp only[Q4,Y9,List.getElem_range]
      show(D5 sum all ws).getD ((k:Int).toNat) 0=_
      rw[K0,l_s,l_r h2]
      rfl
    have hcut:(Z.map fun z:Int=>(D5 sum all ws).getD z.toNat 0).sum=((Z.take (sum-(v9 sum all ws).sum)).map fun z:Int=>(D5 sum all ws).getD z.toNat 0).sum+((Z.drop (sum-(v9 sum all ws).sum)).map fun z:Int=>(D5 sum all ws).getD z.toNat 0).sum:=by
     conv=>lhs;rw[←G0 (sum-(v9 sum all ws).sum) Z,L7,a2m]
    have hdr:∀z∈Z.drop (sum-(v9 sum all ws).sum),(D5 sum all ws).getD z.toNat 0≤0:=fun z hz=>by
     rw[←G0 (sum-(v9 sum all ws).sum) Z]at hs
     have hrk:=(List.pairwise_append.1 hs).2.2 _ hm z hz
     unfold Rk at hrk
     simp only at hrk
     omega
    have h3:=(a4c (fun z:Int=>(D5 sum all ws).getD z.toNat 0) 0 hdr).1
    have h4:=(a4c (fun z:Int=>(D5 sum all ws).getD z.toNat 0) (all-1) (T:=Z.take (sum-(v9 sum all ws).sum)) fun z _=>hrl z).2 _ hm hr0
    rw[x4,Nat.min_eq_left (by omega)]at h4
    obtain⟨d,hd⟩:∃d,sum=(v9 sum all ws).sum+d:=⟨sum-(v9 sum all ws).sum,by omega⟩
    have hd2:sum-(v9 sum all ws).sum=d:=by omega
    rw[hd2]at h3 h4 hcut hm
    obtain⟨m,hm1⟩:∃m,all=m+1:=⟨all-1,by omega⟩
    have h5:d*all=(D5 sum all ws).sum:=by
     have h6:sum*all=(v9 sum all ws).sum*all+d*all:=by
      conv=>lhs;rw[hd,R8]
     omega
    rw[hsz]at hcut
    have h7:d*all=d*(all-1)+d:=by rw[hm1,a4E,Nat.mul_succ]
    have h8:d=0:=by omega
    rw[h8]at hm
    simp at hm
  ·have hlt:sum*ws[i]<all*ws[i]:=Nat.mul_lt_mul_of_pos_right (by omega) (by omega)
   have hq2:sum*ws[i]/all<ws[i]:=(Nat.div_lt_iff_lt_mul hall).2 (by rw[a0w (ws[i])];exact hlt)
   split<;>omega
theorem c4C{s:Nat}{P:List Int}(hask:N3 s P=0)(hle:(s:Int)≤P.sum){k:Nat}(hk:k<P.length)(hk2:k<(shF s P).length):(shF s P)[k]≤P[k]:=by
 obtain⟨hw0,hw1,hf,hs0,hs1,hs2,hs3⟩:=b6l hask
 by_cases hz:P.sum=0
 ·have h0:s=0:=by omega
  have:=(a4V hask).2.2 _ (l_v hk2)
  have hp:=(hf _ (l_v hk)).1
  omega
 ·obtain⟨hep,_⟩:=a7k hask
  have he:J3 P=P.map Int.toNat:=by unfold J3;rw[if_neg hz]
  have hsum:=b0J (P.map Int.toNat)
  rw[W9 hf]at hsum
  have hb:=(a5J s P).le hep rfl (by rw[he];omega) k (by rw[a7j];exact hk)
  rw[l_s,l_r hk2]at hb
  simp only[Option.getD_some,he,Y9]at hb
  have hp:=(hf _ (l_v hk)).1
  omega
theorem b4g{o:Odr}(h:OkO o)(i:Int):∀u∈U7 o i,0≤u.share∧u.share≤4294967296:=by
 intro u hu
 refine⟨?_,by have:=(a1Y h i 3 u hu).2;omega⟩
 obtain⟨k,hk,rfl⟩:=R7 hu
 have hl:=a1Z h i 3
 have hv:=(M7 o.ls h.count).2.2 i
 have hk':k<(m7 o.ls).length:=by rw[←hl];exact hk
 have e0:(a2M o 0).toNat=o.disc.toNat:=rfl
 have e1:(a2M o 1).toNat=o.tax.toNat:=rfl
 have e2:(a2M o 2).toNat=o.ship.toNat:=rfl
 have h0:=h.sh 0
 have h1:=h.sh 1
 have h2:=h.sh 2
 rw[e0]at h0
 rw[e1]at h1
 rw[e2]at h2
 rw[a8g h i (by omega) (by omega) (by omega) (by omega) hk]
 have b1:=h1.2.2 _ (l_v (l:=shF o.tax.toNat (m7 o.ls)) (n:=k) (by omega))
 have b2:=h2.2.2 _ (l_v (l:=shF o.ship.toNat (m7 o.ls)) (n:=k) (by omega))
 have hask:=h.ask h.disc
 have hd0:=h.disc.1
 rw[←Int.toNat_of_nonneg hd0]at hask
 have b0:=c4C hask (by rw[(M7 o.ls h.count).2.1,Int.toNat_of_nonneg hd0];exact h.le) hk' (by omega)
 have hp:((E2 i o.ls)[k]'(by omega)).share=(m7 o.ls)[k]:=by
  have:=hv.2
  simp only[←this,Y9]
 show 0≤((E2 i o.ls)[k]'(by omega)).share-_+_+_
 rw[hp]
 omega
theorem c0O{C:Cfg}(hok:K7 C):∀u∈l9 C,0≤u.share∧u.share≤4294967296:=by
 intro u hu
 rw[l9,l_y]at hu
 rcases hu with hu|hu
 ·have:∀(os:List Odr) (j:Nat),(∀o∈os,OkO o)→∀u∈E1 j os,0≤u.share∧u.share≤4294967296:=by
   intro os
   induction os with
   |nil=>intro j _ u hu;cases hu
   |cons o os ih=>
    intro j h u hu
    rw[E1,l_y]at hu
    rcases hu with hu|hu
    ·exact b4g (h o (by simp)) j u hu
    ·exact ih (j+1) (fun x hx=>h x (by simp[hx])) u hu
  exact this C.os 0 hok.okO u hu
 ·simp only[List.mem_flatMap,U6,List.mem_replicate]at hu
  obtain⟨s,hs,_,rfl⟩:=hu
  have:=(hok.2.2.2.2.1.1 s hs).2.1
  exact⟨this.1,by have:=this.2;show s.price≤_;omega⟩
end
section
set_option maxHeartbeats 8000000
def C8(ps:List Pol)(k:Int):Pol:=if 0≤k then ps.getD k.toNat Pol.zero else Pol.zero
def j9(U:List Unt)(u:Int):Unt:=U.getD u.toNat ⟨0,0,0,0⟩
def T1(ps:List Pol)(U:List Unt)(rea u g:Int):Int:=if g=4 then(j9 U u).share else if 0≤g then wrt (C8 ps (j9 U u).cat) (j9 U u).share rea g else 0
def Q7(ps:List Pol)(U:List Unt)(r:Ret)(i:Nat):Int:=(((r.us.zip r.gs).take i).map fun x=>T1 ps U r.rea x.1 x.2).sum
def J7(ps:List Pol)(U:List Unt)(r:Ret):Int:=((r.us.zip r.gs).map fun x=>T1 ps U r.rea x.1 x.2).sum
theorem a8i:Pol.zero.right:=by
 simp[Pol.right,Pol.zero,U2,Z9]
theorem K8{ps:List Pol}(h:a2p ps)(k:Int):(C8 ps k).right:=by
 unfold C8
 split
 ·rw[l_s]
  by_cases hk:k.toNat<ps.length
  ·rw[l_r hk];exact h.2 _ (l_v hk)
  ·rw[Y1 (by omega)];exact a8i
 ·exact a8i
theorem c0b{ps:List Pol}{i:Nat}(hi:i<ps.length):C8 ps (i:Int)=ps[i]:=by
 rw[C8,if_pos (by omega),K0,l_s,l_r hi];rfl
theorem b7h{ps:List Pol}{k:Int}(hk:k<0∨(ps.length:Int)≤k):C8 ps k=Pol.zero:=by
 unfold C8
 split
 ·rw[l_s,Y1 (by omega)];rfl
 ·rfl
def b3Y(U:List Unt):Prop:=∀u∈U,0≤u.share∧u.share≤4294967296
theorem L0{U:List Unt}(h:b3Y U)(u:Int):0≤(j9 U u).share∧(j9 U u).share≤4294967296:=by
 unfold j9
 rw[l_s]
 by_cases hk:u.toNat<U.length
 ·rw[l_r hk];exact h _ (l_v hk)
 ·rw[Y1 (by omega)];exact⟨by decide,by decide⟩
theorem b2J{ps:List Pol}{U:List Unt}(hp:a2p ps)(hU:b3Y U)(rea u g:Int):0≤T1 ps U rea u g∧T1 ps U rea u g≤4294967296:=by
 have h1:=L0 hU u
 unfold T1
 split
 ·exact h1
 ·split
  ·have:=a3s (p:=C8 ps (j9 U u).cat) (sh:=(j9 U u).share) (r:=rea) (g:=g) (K8 hp _) h1.1
   omega
  ·omega
theorem b0P{ps:List Pol}{U:List Unt}{r:Ret}{i:Nat}(hl:r.gs.length=r.us.length)(hi:i<r.us.length):Q7 ps U r (i+1)=Q7 ps U r i+T1 ps U r.rea (r.us.getD i 0) (r.gs.getD i 0):=by
 have hz:i<(r.us.zip r.gs).length:=by rw[List.length_zip];omega
 unfold Q7
 rw[l_t hz,L7,a2m,l7 hi,l7 (show i<r.gs.length by omega)]
 simp
theorem a6i{ps:List Pol}{U:List Unt}{r:Ret}(hl:r.gs.length=r.us.length):Q7 ps U r r.us.length=J7 ps U r:=by
 unfold Q7 J7
 rw[a2E (by rw[List.length_zip];omega)]
theorem a3D{ps:List Pol}{U:List Unt}{r:Ret}(hp:a2p ps)(hU:b3Y U)(i:Nat):0≤Q7 ps U r i∧Q7 ps U r i≤4294967296*i:=by
 have h:∀l:List (Int×Int),0≤(l.map fun x=>T1 ps U r.rea x.1 x.2).sum∧(l.map fun x=>T1 ps U r.rea x.1 x.2).sum≤4294967296*l.length:=by
  intro l
  induction l with
  |nil=>simp
  |cons x l ih=>
   have:=b2J hp hU r.rea x.1 x.2
   rw[G7,K1,l_f]
   omega
 have h1:=h ((r.us.zip r.gs).take i)
 have h2:((r.us.zip r.gs).take i).length≤i:=by rw[x4];omega
 unfold Q7
 omega
theorem a9S{h0 h:c9}{l:List HP}{A:Option Addr}{c:Nat}{xs:List Pol}(S:St h0 h l)(ha:∀h',St h0 h' l→Arr Pol.enc 16 h' A xs)(k:Int):
  d8 Tryz.prog 66 [.slice A xs.length c,.int .i64 k] h fun v h'=>St h0 h' l∧∃e,v= .tuple #[.agg (C8 xs k).enc.toArray,.int .i64 e]:=by
 refine(c4P S ha k).mono ?_
 rintro v h' ⟨S,⟨i,hi,rfl,rfl⟩|⟨hk,rfl⟩⟩
 ·exact⟨S,0,by rw[c0b hi]⟩
 ·exact⟨S,10,by rw[b7h hk]⟩
set_option maxHeartbeats 16000000 in
theorem b6o{h0:c9}{D:Cfg}{U:List Unt}{x:i0}{A:Option Addr}{c:Nat}(rp:Arr Pol.enc 16 h0 D.A3 D.ps)(ru:Arr Unt.enc 4 h0 A U)(ha:Arr i6 1 h0 x.A x.r.us)(hb:Arr i6 1 h0 x.B x.r.gs)
  (hp:a2p D.ps) (hU:b3Y U) (hrea:isR x.r.rea) (hou:Q6 x.r.us x.r.gs) (hin:∀v∈x.r.us,v<U.length):
  d8 Tryz.prog 74 [.agg D.enc.toArray,.slice A U.length c,.agg x.enc.toArray] h0 fun v h'=>v= .int .i64 (J7 D.ps U x.r)∧Fr h0 h' []:=by
 have S:=St.nil h0
 obtain⟨n1,n2,hall⟩:=hou
 have rp':∀{h':c9}{l:List HP},St h0 h' l→Arr Pol.enc 16 h' D.A3 D.ps:=fun S=>rp.fr S.fr (by simp)
 have ru':∀{h':c9}{l:List HP},St h0 h' l→Arr Unt.enc 4 h' A U:=fun S=>ru.fr S.fr (by simp)
 have ha':∀{h':c9}{l:List HP},St h0 h' l→Arr i6 1 h' x.A x.r.us:=fun S=>ha.fr S.fr (by simp)
 have hb':∀{h':c9}{l:List HP},St h0 h' l→Arr i6 1 h' x.B x.r.gs:=fun S=>hb.fr S.fr (by simp)
 have hw0:Q7 D.ps U x.r 0=0:=by simp[Q7]
 refine EN i74.eq_1 fun K hK=>Wa ?_
 (revert S;(try clear F);refine AL fun g h S F=> ?_)
 refine Wa ?_
 (revert S;(try clear F);refine AL fun b h S F=> ?_)
 refine Wc F @i0.enc.eq_1 ?_
 refine lI (fun ρ h'=>ρ 1= .slice A U.length c∧ρ 3= .pointer (some ⟨g,0,none⟩)∧ρ 5= .pointer (some ⟨b,0,none⟩)∧ρ 16= .slice x.A x.r.us.length x.c∧ρ 17= .int .i64 x.r.us.length∧∃i:Nat,ρ 18= .int .i64 i∧i≤x.r.us.length∧ρ 7= .int .i64 (Q7 D.ps U x.r i)∧
  St h0 h' [d9 b x.enc 136,d9 g D.enc 26]) (fun ρ _=>x.r.us.length-(iv (ρ 18)).toNat) ?_ ?_
 ·refine Wa ?_
  exact⟨0,rfl,by omega,by rw[hw0],S⟩
 clear S F
 rintro ρ h J hJ ⟨e1,e3,e5,e16,e17,i,e18,hi,e7,S⟩
 refine Wc e17 e18 ?_
 refine cD (fun hlt=> ?_) (fun hlt=> ?_)
 ·have hil:i<x.r.us.length:=by omega
  obtain⟨b1,o1,hA1,q1⟩:=(ha' S).at hil
  obtain⟨b2,o2,hA2,q2⟩:=(hb' S).at (i:=i) (by omega)
  have q1:=rP0 q1 (by omega)
  have q2:=rP0 q2 (by omega)
  simp only[i6,l_o,m9]at q1 q2
  have hlt':=hin _ (l_v hil)
  rw[←l7]at q1 q2 hlt'
  obtain⟨c1,_,c2⟩:=hall i hil
  have hsn:=b0P (ps:=D.ps) (U:=U) (r:=x.r) n2 hil
  have hbd:=a3D (r:=x.r) hp hU i
  have hn200:=n1.2
  obtain⟨j,hj⟩:=l_u c1.1
  rw[hj]at q1 hlt' hsn
  have hjl:j<U.length:=by omega
  have hat:j9 U (j:Int)=U[j]:=by rw[j9,K0,l_s,l_r hjl];rfl
  have hsh:=hU _ (l_v hjl)
  have hqU:∀{h':c9}{l:List HP},St h0 h' l→∃b4 o4,A=some ⟨b4,o4,none⟩∧rd1 h' (.pointer (some ⟨b4,o4+j*4+2,none⟩))=some (.int .i64 U[j].cat)∧rd1 h' (.pointer (some ⟨b4,o4+j*4+3,none⟩))=some (.int .i64 U[j].share):=fun S=>by
   obtain⟨b4,o4,hA4,q4⟩:=(ru' S).at hjl
   have p2:=rP q4 2 (by omega)
   have p3:=rP q4 3 (by omega)
   simp only[Unt.enc,l_o,l_p]at p2 p3
   exact⟨b4,o4,hA4,p2,p3⟩
  obtain⟨b4,o4,hA4,_,p3⟩:=hqU S
  have hqU:∀{h':c9}{l:List HP},St h0 h' l→rd1 h' (.pointer (some ⟨b4,o4+j*4+2,none⟩))=some (.int .i64 U[j].cat)∧rd1 h' (.pointer (some ⟨b4,o4+j*4+3,none⟩))=some (.int .i64 U[j].share):=fun S=>by
   obtain⟨b5,o5,hA5,hh⟩:=hqU S
   rw[hA4]at hA5
   cases hA5
   exact hh
  generalize U[j]=z at*
  generalize x.r.gs.getD i 0=gv at*
  by_cases d1:gv=4
  ·have hu:T1 D.ps U x.r.rea (j:Int) gv=z.share:=by rw[T1,if_pos d1,hat]
   rw[hu]at hsn
   ((try clear F);have F:=S.fx)
   refine Wi e1 e5 e7 e16 e18 F @i0.enc.eq_1 (Pf hA1 hA2 hA4 q1 (Pe q2 p3 d1 @m9)) ?_
   refine hJ _ _ ?_ ?_
   ·refine Wh e1 e3 e5 e16 e17 hA1 hA4 ?_
    exact⟨i+1,rfl,by omega,by rw[hsn],S⟩
   ·refine Wb e18 ?_
    omega
  by_cases d2:0≤gv
  ·have hu:T1 D.ps U x.r.rea (j:Int) gv=wrt (C8 D.ps z.cat) z.share x.r.rea gv:=by rw[T1,if_neg d1,if_pos d2,hat]
   rw[hu]at hsn
   have hPr:=K8 hp z.cat
   have hwb:=a3s (r:=x.r.rea) (g:=gv) hPr hsh.1
   generalize hP:C8 D.ps z.cat=P at*
   ((try clear F);have F:=S.fx)
   refine Wi e1 e5 e7 e16 e18 F @i0.enc.eq_1 (Pf hA1 hA2 hA4 q1 (Pe q2 d1 d2 @m9)) ?_
   refine cS S (fun ρ' h'=>ρ' 1= .slice A U.length c∧ρ' 3= .pointer (some ⟨g,0,none⟩)∧ρ' 5= .pointer (some ⟨b,0,none⟩)∧ρ' 7= .int .i64 (Q7 D.ps U x.r i)∧ρ' 9= .int .i64 j∧ρ' 10= .int .i64 gv∧ρ' 16= .slice x.A x.r.us.length x.c∧ρ' 17= .int .i64 x.r.us.length∧ρ' 18= .int .i64 i∧∃q,ρ' 11= .pointer (some ⟨q,0,none⟩)∧
    St h0 h' [d9 q P.enc 83,d9 b x.enc 136,d9 g D.enc 26]) ?_ ?_
   ·intro J' hJ'
    have rx:∀K t,j8 (fun h'=>St h0 h' [d9 b x.enc 136,d9 g D.enc 26]) (fun h'=>rd1 h' (.pointer (some ⟨g,2,none⟩))) K t=K (.slice D.A3 D.ps.length D.c3):=fun K t=>rI (fun h' S=>m8 (off:=2) S.p1) h S
    have ry:∀K t,j8 (fun h'=>St h0 h' [d9 b x.enc 136,d9 g D.enc 26]) (fun h'=>rd1 h' (.pointer (some ⟨b4,o4+j*4+2,none⟩))) K t=K (.int .i64 z.cat):=fun K t=>rI (fun h' S=>(hqU S).1) h S
    refine Wf e1 e3 hA4 rx ry ?_
    refine⟨?_,?_⟩
    ·refine cI (a9S S (fun h' S=>rp' S) z.cat) ?_
     clear S F rx ry
     rintro _ h ⟨S,e,rfl⟩
     rw[hP]
     refine Wa ?_
     (revert S;(try clear F);refine AL fun q h S F=> ?_)
     refine⟨S.tl,?_⟩
     refine Wa ?_
     (revert S;(try clear F);refine ST fun h S F=> ?_)
     refine hJ' _ _ ?_
     refine Wi e1 e3 e5 e7 e16 e17 e18 (Pc hA1 hA4) ?_
     exact⟨q,rfl,S⟩
    ·(revert S;(try clear F);refine AL fun q h S F=> ?_)
     refine⟨S.tl,?_⟩
     refine Wa ?_
     refine cI (a9S S (fun h' S=>rp' S) z.cat) ?_
     clear S F
     rintro _ h ⟨S,e,rfl⟩
     rw[hP]
     refine Wa ?_
     (revert S;(try clear F);refine ST fun h S F=> ?_)
     refine hJ' _ _ ?_
     refine Wi e1 e3 e5 e7 e16 e17 e18 (Pc hA1 hA4) ?_
     exact⟨q,rfl,S⟩
   clear S F
   rintro ρ' h ⟨f1,f3,f5,f7,f9,f10,f16,f17,f18,q,f11,S⟩
   have p3:=(hqU S).2
   ((try clear F);have F:=S.fx)
   refine Wa ?_
   refine dE ?_
   refine Wi f1 f5 f9 f10 f11 F @i0.enc.eq_1 (Pd @Pol.enc.eq_1 hA4 p3) ?_
   refine cI (b1d P z.share x.r.rea gv hPr hrea ⟨d2,by have:=c2.2;omega⟩ hsh.1 (by omega) _) ?_
   rintro _ h ⟨rfl,f2⟩
   have S:=S.frame f2
   refine Wc f7 f18 ?_
   refine hJ _ _ ?_ ?_
   ·refine Wf f1 f3 f5 f16 f17 ?_
    exact⟨i+1,rfl,by omega,by rw[hsn],S.tl⟩
   ·refine Wc e18 f18 ?_
    omega
  ·have hu:T1 D.ps U x.r.rea (j:Int) gv=0:=by rw[T1,if_neg d1,if_neg d2]
   rw[hu,Int.add_zero]at hsn
   ((try clear F);have F:=S.fx)
   refine Wi e1 e5 e7 e16 e18 F @i0.enc.eq_1 (Pf hA1 hA2 q1 q2 (Pd d1 d2 @m9)) ?_
   refine hJ _ _ ?_ ?_
   ·refine Wh e1 e3 e5 e7 e16 e17 hA1 ?_
    exact⟨i+1,rfl,by omega,by rw[hsn],S⟩
   ·refine Wb e18 ?_
    omega
 obtain rfl:i=x.r.us.length:=by omega
 rw[a6i n2]at e7
 refine Wb e7 ?_
 exact hK _ _ ⟨rfl,S.fr⟩
end
section
set_option maxHeartbeats 16000000
def u3(ss:List Sup)(sku:Int):Option Int:=match ss with
 | []=>none
 |s::ss=>if s.sku=sku then some s.price else u3 ss sku
theorem a7P{ss:List Sup}{sku:Int}:∀{i:Nat} (hi:i<ss.length),(∀s∈ss.take i,s.sku≠sku)→ss[i].sku=sku→u3 ss sku=some ss[i].price:=by
 induction ss with
 |nil=>intro i hi;simp at hi
 |cons s ss ih=>
  intro i hi h1 h2
  match i with
  |0=>simp only[List.getElem_cons_zero]at h2⊢;rw[u3,if_pos h2]
  |i+1=>
   rw[u3,if_neg (h1 s (by simp))]
   exact ih (by simpa using hi) (fun x hx=>h1 x (by simp[hx])) h2
theorem a7Q{ss:List Sup}{sku:Int}(h:∀s∈ss,s.sku≠sku):u3 ss sku=none:=by
 induction ss with
 |nil=>rfl
 |cons s ss ih=>rw[u3,if_neg (h s (by simp)),ih fun x hx=>h x (by simp[hx])]
theorem b2A{ss:List Sup}{sku:Int}{i:Nat}(hi:i<ss.length)(h1:∀s∈ss.take i,s.sku≠sku)(h2:¬ss[i].sku=sku):∀s∈ss.take (i+1),s.sku≠sku:=by
 rw[l_t hi]
 intro s hs
 rcases List.mem_append.1 hs with hs|hs
 ·exact h1 s hs
 ·rw[U1]at hs;rw[hs];exact h2
theorem a5d{h0:c9}(C:Cfg)(sku:Int)(r:Arr Sup.enc 3 h0 C.A2 C.ss)(l2:C.ss.length<1000000):
  d8 Tryz.prog 192 [.agg C.enc.toArray,.int .i64 sku] h0 fun v h'=>v= .tuple #[.int .i64 ((u3 C.ss sku).getD 0),.int .i64 (if(u3 C.ss sku).isSome then 0 else 7)]∧Fr h0 h' []:=by
 have S:=St.nil h0
 refine EN i192.eq_1 fun K hK=>Wa ?_
 (revert S;(try clear F);refine AL fun g h S F=> ?_)
 refine Wc F @Cfg.enc.eq_1 ?_
 refine lI (fun ρ h'=>ρ 1= .int .i64 sku∧ρ 9= .slice C.A2 C.ss.length C.c2∧ρ 10= .int .i64 C.ss.length∧(∃i:Nat,ρ 11= .int .i64 i∧i≤C.ss.length∧∀s∈C.ss.take i,s.sku≠sku)∧St h0 h' []) (fun ρ _=>C.ss.length-(iv (ρ 11)).toNat) ?_ ?_
 ·refine Wa ?_
  exact⟨⟨0,rfl,by omega,by simp⟩,S.tl⟩
 clear S F
 rintro ρ h J hJ ⟨e1,e9,e10,⟨i,e11,hi,hne⟩,S⟩
 refine Wc e10 e11 ?_
 refine cD (fun hlt=> ?_) (fun hlt=> ?_)
 ·have hil:i<C.ss.length:=by omega
  obtain⟨b,off,hA,hr1⟩:=(r.fr S.fr (by simp)).at hil
  have hat:=fun h=>a7P (sku:=sku) hil hne h
  have hsn:=fun h=>b2A (sku:=sku) hil hne h
  generalize C.ss[i]=x at*
  refine We e9 e11 hA hr1 ?_
  (revert S;(try clear F);refine AL fun q h S F=> ?_)
  refine Wc F @Sup.enc.eq_1 ?_
  (revert S;(try clear F);refine ST fun h S F=> ?_)
  by_cases c1:x.sku=sku
  ·refine Wd F e1 c1 ?_
   exact hK _ _ ⟨by rw[hat c1];rfl,S.fr⟩
  ·refine We F e1 c1 e11 ?_
   refine hJ _ _ ?_ ?_
   ·refine Wd e1 e9 e10 ?_
    exact⟨⟨i+1,rfl,by omega,hsn c1⟩,S.tl⟩
   ·refine Wb e11 ?_
    omega
 ·obtain rfl:i=C.ss.length:=by omega
  rw[C9]at hne
  refine Wa ?_
  exact hK _ _ ⟨by rw[a7Q hne];rfl,S.fr⟩
theorem a5e{h0:c9}(C:Cfg)(sku:Int)(r:Arr Sup.enc 3 h0 C.A2 C.ss)(l2:C.ss.length<1000000):
  d8 Tryz.prog 159 [.agg C.enc.toArray,.int .i64 sku] h0 fun v h'=>v= .tuple #[.int .i64 ((u3 C.ss sku).getD 0),.bool (u3 C.ss sku).isSome]∧Fr h0 h' []:=by
 have S:=St.nil h0
 refine EN i159.eq_1 fun K hK=>Wa ?_
 (revert S;(try clear F);refine AL fun g h S F=> ?_)
 refine Wc F @Cfg.enc.eq_1 ?_
 refine lI (fun ρ h'=>ρ 1= .int .i64 sku∧ρ 2= .pointer (some ⟨g,0,none⟩)∧ρ 9= .int .i64 C.ss.length∧(∃i:Nat,ρ 10= .int .i64 i∧i≤C.ss.length∧∀s∈C.ss.take i,s.sku≠sku)∧St h0 h' [d9 g C.enc 26]) (fun ρ _=>C.ss.length-(iv (ρ 10)).toNat) ?_ ?_
 ·refine Wa ?_
  exact⟨⟨0,rfl,by omega,by simp⟩,S⟩
 clear S F
 rintro ρ h J hJ ⟨e1,e2,e9,⟨i,e10,hi,hne⟩,S⟩
 refine Wc e9 e10 ?_
 refine cD (fun hlt=> ?_) (fun hlt=> ?_)
 ·have hil:i<C.ss.length:=by omega
  obtain⟨b,off,hA,hr1⟩:=(r.fr S.fr (by simp)).at hil
  have hat:=fun h=>a7P (sku:=sku) hil hne h
  have hsn:=fun h=>b2A (sku:=sku) hil hne h
  generalize C.ss[i]=x at*
  have hq0:=rP0 hr1 (by omega)
  have hq1:=rP hr1 1 (by omega)
  simp only[Sup.enc,l_o,l_p]at hq0 hq1
  ((try clear F);have F:=S.fx)
  by_cases c1:x.sku=sku
  ·refine Wi e2 F @Cfg.enc.eq_1 e10 hA hq0 e1 (Pc c1 hq1) ?_
   exact hK _ _ ⟨by rw[hat c1];rfl,S.fr⟩
  ·refine Wi e2 F @Cfg.enc.eq_1 e10 hA hq0 e1 c1 ?_
   refine hJ _ _ ?_ ?_
   ·refine Wd e1 e2 e9 ?_
    exact⟨⟨i+1,rfl,by omega,hsn c1⟩,S⟩
   ·refine Wb e10 ?_
    omega
 ·obtain rfl:i=C.ss.length:=by omega
  rw[C9]at hne
  refine Wa ?_
  exact hK _ _ ⟨by rw[a7Q hne];rfl,S.fr⟩
end
structure Wk where
 s:Sag
 sd:List Msg
structure Cmd where
 kind:Int
 ord:Int
 us:List Int
 rea:Int
 want:Int
 cred:Bool
 rma:Int
 unit:Int
 grade:Int
 days:Int
 key:Int
 yes:Bool
abbrev w64(n:Int):Int:=IntKind.i64.wrap n
def J4(a b:Int):Prop:=a=0∧b=1∨a=1∧(b=2∨b=6)∨a=2∧(b=3∨b=4∨b=5∨b=8)∨a=3∧b=7∨a=7∧(b=3∨b=8)∨a=8∧(b=0∨b=6)
instance (a b:Int):Decidable (J4 a b):=by unfold J4;exact inferInstance
def a5x(u:KU)(to:Int):KU:=⟨to,u.sku,u.recv||decide (to=2),u.grad||decide (u.place=2)⟩
def KU0:KU:=⟨0,0,false,false⟩
def H9(K:List KU)(n to:Int):Int:=if 0≤n∧n<K.length then(if J4 (i5 K n) to then 0 else 8)else 7
def E3(K:List KU)(n to:Int):List KU:=if H9 K n to=0 then K.set n.toNat (a5x (K.getD n.toNat KU0) to)else K
def a2e(K:List KU)(sku:Int):Option Nat:=K.findIdx? fun u=>decide (u.place=3∧u.sku=sku)
def E4(st by_:Int):Option Int:=
 if by_=1∧st=1 then some 2 else if by_=2∧st=2 then some 3 else if by_=3∧st=3 then some 4 else if by_=4∧st=4∨by_=5∧st=3 then some 5
 else if by_=6∧st=5 then some 6 else if(by_=7∨by_=8∨by_=9)∧(st=1∨st=2)then some by_ else none
def Led.get(l:Led)(n:Int):Int:=if n=0 then l.a else if n=1 then l.b else if n=2 then l.c else if n=3 then l.d else l.e
def Led.put(l:Led)(n v:Int):Led:=if n=0 then {l with a:=v}else if n=1 then {l with b:=v}else if n=2 then {l with c:=v}else if n=3 then {l with d:=v}else {l with e:=v}
def okC(n:Int):Prop:= -1125899906842624≤n∧n≤1125899906842624
instance (n:Int):Decidable (okC n):=by unfold okC;exact inferInstance
def a1u(l:Led)(a b sum:Int):Except Int Led:=
 if sum<0 then .error 1 else if okC (l.get a)∧okC (l.get b)∧okC sum∧okC (l.get a-sum)∧okC (l.get b+sum)then .ok ((l.put a (l.get a-sum)).put b (l.get b+sum))else .error 9
def Sag.at_(s:Sag)(n:Int):Option Ret:=if 1≤n then s.R[(n-1).toNat]? else none
def Wk.R(w:Wk)(i:Nat):Ret:=w.s.R.getD i Ret.zero
def Wk.put(w:Wk)(i:Nat)(r:Ret):Wk:={w with s:={w.s with R:=w.s.R.set i r} }
def Wk.led(w:Wk)(l:Led):Wk:={w with s:={w.s with led:=l} }
def Wk.mv(w:Wk)(n to:Int):Wk:={w with s:={w.s with K:=E3 w.s.K n to} }
def I4(w:Wk)(kind num value:Int):Wk:=
 ⟨{w.s with key:=w.s.key+1,O:=w.s.O++ [⟨w.s.key,kind,num,value,1,w.s.now+1⟩]},w.sd++ [⟨w.s.key,kind,num,value,1,w.s.now+1⟩]⟩
def j5(w:Wk)(i:Nat):Wk:=if 0≤(w.R i).res then(w.mv (w.R i).res 3).put i {w.R i with res:= -1}else w
def dropL(O:List Msg)(num:Int):List Msg:=O.filter fun m=> !decide (m.rma=num∧m.kind=1)
def M1(w:Wk)(num by_:Int):Except Int Wk:=
 match w.s.at_ num with
 |none=> .error 7
 |some r=>match E4 r.state by_ with
  |none=> .error 8
  |some st=>
   let w2:=j5 (w.put (num-1).toNat {r with state:=st}) (num-1).toNat
   .ok {w2 with s:={w2.s with T:=without w2.s.T num,O:=dropL w2.s.O num} }
def H3(w:Wk)(num by_:Int):Except Int Wk:=
 match w.s.at_ num with
 |none=> .error 7
 |some r=>match E4 r.state by_ with
  |none=> .error 8
  |some st=> .ok (w.put (num-1).toNat {r with state:=st})
def t7(w:Wk)(us:List Int)(to:Int):Wk:=us.foldl (fun w u=>w.mv u to) w
def a2Q(w:Wk)(num d:Int):Wk:={w with s:={w.s with T:=setT w.s.T num d} }
def S7(w:Wk)(num:Int):Wk:={w with s:={w.s with T:=without w.s.T num} }
def a2L(w:Wk)(num:Int):Except Int Wk:=
 (H3 w num 2).bind fun w1=>let w2:=t7 w1 (w1.R (num-1).toNat).us 1;.ok (a2Q w2 num (w2.s.now+30))
def O4(w:Wk)(num:Int):Except Int Wk:=
 (H3 w num 3).bind fun w1=>let w2:=t7 w1 (w1.R (num-1).toNat).us 2;.ok (S7 w2 num)
def Q5(w:Wk)(a b sum:Int):Except Int Wk:=(a1u w.s.led a b sum).map w.led
def X0(w:Wk)(i:Nat)(sum:Int):Except Int Wk:=Q5 (w.put i {w.R i with credd:=w64 ((w.R i).credd+sum)}) 1 3 sum
def R9(w:Wk)(i:Nat)(sum:Int):Except Int Wk:=if sum=0 then .ok w else if(w.R i).cred=true then X0 w i sum else .ok (I4 w 2 (w.R i).num sum)
def y8(w:Wk)(i:Nat):Wk:=if(w.R i).state=5∧l8 (w.R i).num w.s.O=0 then w.put i {w.R i with state:=6}else w
def G5(ss:List Sup)(w:Wk)(i:Nat)(by_:Int):Except Int Wk:=
 match E4 (w.R i).state by_ with
 |none=> .error 8
 |some st=>
  (Q5 (w.put i {w.R i with state:=st}) 0 1 (w.R i).worth).bind fun w1=>
   let price:=(u3 ss (w1.R i).want).getD 0
   (if 0≤(w1.R i).res then(if(w1.R i).worth<price then R9 (j5 w1 i) i (w1.R i).worth else R9 (I4 w1 3 (w1.R i).num (w1.R i).res) i (w64 ((w1.R i).worth-price)))else R9 w1 i (w1.R i).worth).map fun w2=>y8 w2 i
def u7(U:List Unt)(w:Wk)(i:Nat):Nat→Wk
 |0=>w
 |j+1=>
  let w1:=u7 U w i j
  let u:=(w1.R i).us.getD j 0
  (w1.mv u 6).put i {w1.R i with gs:=(w1.R i).gs.set j 4,worth:=w64 ((w1.R i).worth+(j9 U u).share)}
def a7C(ss:List Sup)(U:List Unt)(w:Wk)(i:Nat):Except Int Wk:=G5 ss (u7 U w i (w.R i).us.length) i 5
def a1I(ss:List Sup)(U:List Unt)(w:Wk)(num:Int):Except Int Wk:=
 match w.s.at_ num with
 |none=> .error 7
 |some r=>if r.state=3 then a7C ss U w (num-1).toNat else if r.state=1∨r.state=2 then M1 w num 8 else .ok w
def M5{α:Type}(f:Wk→α→Except Int Wk):Wk→List α→Except Int Wk
 |w,[]=> .ok w
 |w,x::l=>(f w x).bind fun w1=>M5 f w1 l
def a2h(ss:List Sup)(U:List Unt)(w:Wk)(days:Int):Except Int (Wk×List Msg):=
 if days<1∨1000<days then .error 1 else if 100000<w.s.now+days then .error 2 else
  let now:=w.s.now+days
  (M5 (a1I ss U) {w with s:={w.s with now:=now,T:=O1 w.s.T now} } ((O8 w.s.T now).map Tm.num)).bind fun w1=>
   (M5 (fun w (m:Msg)=>M1 w m.rma 8) {w1 with s:={w1.s with O:=y9 now w1.s.O} } (x5 now w1.s.O)).map fun w2=>(w2,A9 now w1.s.O)
def a0T(w:Wk)(i:Nat)(sum:Int)(yes:Bool):Except Int Wk:=
 if yes=true then Q5 (w.put i {w.R i with paid:=w64 ((w.R i).paid+sum)}) 1 2 sum else X0 w i sum
def I6(ss:List Sup)(w:Wk)(i:Nat)(yes:Bool):Except Int Wk:=
 let price:=(u3 ss (w.R i).want).getD 0
 if yes=true then
  let w1:=w.put i {w.R i with given:=w64 ((w.R i).given+price)}
  if H9 w1.s.K (w1.R i).res 8=0 then Q5 (w1.mv (w1.R i).res 8) 1 4 price else .error (H9 w1.s.K (w1.R i).res 8)
 else R9 (j5 w i) i price
def I8(yes:Bool):Int:=if yes=true then 0 else 6
def Z3(ss:List Sup)(w:Wk)(key:Int)(yes:Bool):Except Int Wk:=
 match w.s.O.findIdx? fun m=>decide (m.key=key)with
 |none=> .error 16
 |some j=>
  let m:=w.s.O.getD j Msg.zero
  let w1:Wk:={w with s:={w.s with O:=w.s.O.take j++w.s.O.drop (j+1)} }
  match w1.s.at_ m.rma with
  |none=> .error 7
  |some _=>
   let i:=(m.rma-1).toNat
   if m.kind=1∧yes=false then M1 w1 m.rma 8 else
    (if m.kind=1 then H3 w1 m.rma 1 else if m.kind=2 then a0T w1 i m.value yes else if m.kind=3 then I6 ss w1 i yes
     else if H9 w1.s.K m.value (I8 yes)=0 then .ok (w1.mv m.value (I8 yes))else .error (H9 w1.s.K m.value (I8 yes))).map fun w2=>y8 w2 i
noncomputable def N9(r:Ret)(unit grade:Int):Except Int Nat:=if dcd (r.right∧btw grade 0 4)=false then .error 1 else match r.us.findIdx? fun u=>decide (u=unit)with
 |none=> .error 7
 |some j=>if r.gs.getD j 0≠-1 then .error 8 else .ok j
noncomputable def a0Z(ps:List Pol)(ss:List Sup)(U:List Unt)(w:Wk)(c:Cmd)(i j:Nat):Except Int Wk:=
 let r:=w.R i
 let x:=j9 U c.unit
 let p:=C8 ps x.cat
 let w1:=w.put i {r with gs:=r.gs.set j c.grade,worth:=w64 (r.worth+wrt p x.share r.rea c.grade)}
 let w2:=if p.gto c.grade≠0 then w1.mv c.unit (p.gto c.grade)else I4 (w1.mv c.unit 8) 4 r.num c.unit
 if(w2.R i).gs.contains (-1)=true then .ok w2 else G5 ss w2 i 4
noncomputable def T8(ps:List Pol)(ss:List Sup)(U:List Unt)(w:Wk)(c:Cmd):Except Int Wk:=
 match w.s.at_ c.rma with
 |none=> .error 7
 |some r=>if r.state≠4 then .error 8 else match N9 r c.unit c.grade with
  | .error e=> .error e
  | .ok j=>if c.grade=4 then .error 1 else a0Z ps ss U w c (c.rma-1).toNat j
def L3(s:Sag)(u:Int):Int:=((s.R.find? fun r=> !decide (6≤r.state∧r.state≤9)&&r.us.contains u).map Ret.num).getD 0
def b1V(p:Pol)(days:Int)(wants:Bool):Int:=if p.fin=true∨p.exc=true∧wants=false then 12 else if days<0∨p.w<days then 11 else 0
def E6(U:List Unt)(c:Cmd)(i:Nat):Prop:=(0<i→c.us.getD (i-1) 0<c.us.getD i 0)∧0≤c.us.getD i 0∧c.us.getD i 0<U.length∧(j9 U (c.us.getD i 0)).ord=c.ord
def G1(ps:List Pol)(os:List Odr)(U:List Unt)(s:Sag)(c:Cmd)(u:Int):Int:=
 if i5 s.K u≠0∨0<L3 s u then 13 else b1V (C8 ps (j9 U u).cat) (s.now-((os[c.ord.toNat]?).map Odr.day).getD 0) (decide (0<c.want))
def a0t{α:Type}(f:α→Int):List α→Int
 | []=>0
 |x::l=>if f x=0 then a0t f l else f x
noncomputable def N6(ps:List Pol)(os:List Odr)(U:List Unt)(s:Sag)(c:Cmd):Int:=
 if dcd (∀i,i<c.us.length→E6 U c i)=false then 1 else if c.rea<0∨4≤c.rea∨1000<c.want then 1 else a0t (G1 ps os U s c) c.us
def X1(ss:List Sup)(w:Wk)(sku:Int):Except Int (Int×Wk):=
 if sku=0 then .ok (-1,w)else match u3 ss sku with
 |none=> .error 14
 |some _=>match a2e w.s.K sku with
  |none=> .error 14
  |some j=> .ok ((j:Int),{w with s:={w.s with K:=w.s.K.set j {w.s.K.getD j KU0 with place:=7} } })
noncomputable def E5(ps:List Pol)(os:List Odr)(ss:List Sup)(U:List Unt)(w:Wk)(c:Cmd):Except Int (Int×Wk):=
 if 100≤w.s.R.length then .error 15 else if c.ord<0∨(os.length:Int)≤c.ord then .error 7 else
  if N6 ps os U w.s c≠0 then .error (N6 ps os U w.s c)else
   (X1 ss w c.want).map fun x=>
    let num:Int:=w.s.R.length+1
    let r:Ret:=⟨num,c.ord,c.rea,c.want,x.1,c.cred||c.us.any fun u=>(C8 ps (j9 U u).cat).cre,1,w.s.now,c.us,c.us.map fun _=> -1,0,0,0,0⟩
    (num,I4 {x.2 with s:={x.2.s with R:=w.s.R++ [r],T:=setT x.2.s.T num (w.s.now+14)} } 1 num 0)
noncomputable def doP(D:Cfg)(U:List Unt)(w:Wk)(c:Cmd):Except Int (Int×List Msg×Wk):=
 if c.kind=1 then(E5 D.ps D.os D.ss U w c).map fun x=>(x.1,[],x.2)
 else if c.kind=2 then(M1 w c.rma 9).map fun x=>(0,[],x)
 else if c.kind=3 then(M1 w c.rma 7).map fun x=>(0,[],x)
 else if c.kind=4 then(a2L w c.rma).map fun x=>(0,[],x)
 else if c.kind=5 then(O4 w c.rma).map fun x=>(0,[],x)
 else if c.kind=6 then(T8 D.ps D.ss U w c).map fun x=>(0,[],x)
 else if c.kind=7 then(a2h D.ss U w c.days).map fun x=>(0,x.2,x.1)
 else(Z3 D.ss w c.key c.yes).map fun x=>(0,[],x)
def Cmd.bare(c:Cmd):Cmd:=if c.kind=1 then {c with ord:=0,us:=[],rea:=0,want:=0,cred:=false}else if 2≤c.kind∧c.kind≤5 then {c with rma:=0}else if c.kind=6 then {c with rma:=0,unit:=0,grade:=0}else if c.kind=7 then {c with days:=0}else if c.kind=8 then {c with key:=0,yes:=false}else c
def Cmd.nought(c:Cmd):Prop:=c.ord=0∧c.us=[]∧c.rea=0∧c.want=0∧c.cred=false∧c.rma=0∧c.unit=0∧c.grade=0∧c.days=0∧c.key=0∧c.yes=false
def Cmd.fits(c:Cmd):Prop:=
 if c.kind=1 then(1≤c.us.length∧c.us.length≤60)∧btw c.ord 0 255∧btw c.rea 0 255∧btw c.want 0 65535∧∀u∈c.us,btw u 0 255
 else if 2≤c.kind∧c.kind≤5 then btw c.rma 0 65535 else if c.kind=6 then btw c.rma 0 65535∧btw c.unit 0 255∧btw c.grade 0 255 else if c.kind=7 then btw c.days 0 65535 else if c.kind=8 then btw c.key 0 4294967295 else False
def Cmd.formed(c:Cmd):Prop:=c.fits∧c.bare.nought
noncomputable def O5(D:Cfg)(U:List Unt)(s:Sag)(c:Cmd):Int×List Msg×Int×Sag:=
 if dcd c.formed=false then(0,[],1,s)else match doP D U ⟨s,[]⟩ c with
 | .error e=>(0,[],e,s)
 | .ok x=>(x.1,x.2.2.sd++x.2.1,0,x.2.2.s)
section
set_option maxHeartbeats 4000000
section
variable{h0 h:c9}{l:List HP}{t:Nat}{L:List Tm}
end
end
end Go.Proofs.YtjagmebglhbdkaaGreat.MX
