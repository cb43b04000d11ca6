import Derived.Test.YtjagmebglhbdkaaGreatK21
import Derived.Test.YtjagmebglhbdkaaGreatK24
import Derived.Test.YtjagmebglhbdkaaGreatK13
import Derived.Test.YtjagmebglhbdkaaGreatK23
namespace Go.Proofs.YtjagmebglhbdkaaGreat.MX
open Go Go.Proofs
set_option linter.unusedSimpArgs false
set_option linter.unusedVariables false
section
set_option maxHeartbeats 4000000
theorem b9k{α:Type}(f:α→Nat){a b:List α}(h:a.Perm b):(a.map f).sum=(b.map f).sum:=by
 induction h with
 |nil=>rfl
 |cons x _ ih=>simp only[H3,L0,ih]
 |swap x y l=>simp only[H3,L0];omega
 |trans _ _ ih1 ih2=>rw[ih1,ih2]
theorem a3O{α:Type}(f:α→Nat)(M:Nat):∀{T:List α},(∀z∈T,f z≤M)→(T.map f).sum≤T.length*M∧∀x∈T,f x=0→(T.map f).sum+M≤T.length*M
 | [],_=>⟨by simp,fun x hx=>by cases hx⟩
 |y::T,h=>by
  obtain⟨h1,h2⟩:=a3O f M (T:=T) fun z hz=>h z (by simp[hz])
  have hy:=h y (by simp)
  simp only[H3,L0,l_f,Nat.succ_mul]
  refine⟨by omega,fun x hx h0=> ?_⟩
  rcases List.mem_cons.1 hx with rfl|hx
  ·omega
  ·have:=h2 x hx h0;omega
theorem J7.le{sum all:Nat}{ws:List Nat}{out:List Int}(H:J7 sum all ws out)(hall:0<all)(he:ws.sum=all)(hle:sum≤all):∀i (hi:i<ws.length),out.getD i 0≤(ws[i]:Nat):=by
 obtain⟨Z,hp,hs,rfl⟩:=H
 obtain⟨hl1,hl2⟩:=a2r hall he (sum:=sum)
 have hZl:Z.length=ws.length:=by rw[hp.length_eq,a2T]
 have hql:((x4 sum all ws).map Int.ofNat).length=ws.length:=by rw[l_z,a0p]
 have hZd:∀z∈Z,0≤z∧z<(((x4 sum all ws).map Int.ofNat).length:Int):=fun z hz=>by rw[hql];exact Z8.1 (hp.mem_iff.1 hz)
 have hZn:Z.Nodup:=hp.nodup_iff.2 (X3 _)
 have htd:∀z∈Z.take (sum-(x4 sum all ws).sum),0≤z∧z<(((x4 sum all ws).map Int.ofNat).length:Int):=fun z hz=>hZd z (a1A hz)
 have hg:=b0K _ _ (hZn.sublist (List.take_sublist (sum-(x4 sum all ws).sum) Z)) htd
 intro i hi
 have hq:((x4 sum all ws).map Int.ofNat).getD i 0=((sum*ws[i]/all:Nat):Int):=by
  rw[l_s,l_r (by rw[hql];exact hi)]
  simp only[x4,W9]
  rfl
 rw[hg i (by rw[hql];exact hi),hq]
 have hqr:=b1K sum all ws
 rw[he]at hqr
 by_cases c1:sum=all
 ·have hqw:x4 sum all ws=ws:=by
   rw[x4,c1]
   conv=>rhs;rw[←List.map_id ws]
   exact List.map_congr_left fun w _=>by rw[a0m,Nat.mul_div_cancel _ hall];rfl
  rw[hqw,he,c1,Nat.sub_self,a1V,if_neg (by simp),a0m,Nat.mul_div_cancel _ hall]
  omega
 ·by_cases c2:ws[i]=0
  ·rw[if_neg,c2,Nat.mul_zero,Nat.zero_div]
   ·simp
   ·intro hm
    have hr0:(C7 sum all ws).getD ((i:Int).toNat) 0=0:=by
     simp only[J5,C7,l_s,a0N,l_r hi,c2]
     simp
    have hrl:∀z:Int,(C7 sum all ws).getD z.toNat 0≤all-1:=fun z=>by
     rw[l_s,C7,a0N]
     cases ws[z.toNat]? with
     |none=>simp
     |some w=>
      have:=Nat.mod_lt (sum*w) hall
      simp only[Option.map_some,Option.getD_some]
      omega
    have hsz:(Z.map fun z:Int=>(C7 sum all ws).getD z.toNat 0).sum=(C7 sum all ws).sum:=by
     rw[b9k _ hp]
     congr 1
     apply List.ext_getElem
     ·simp[P9,C7]
     ·intro k h1 h2
      simp only[P9,W9,List.getElem_range]
      show(C7 sum all ws).getD ((k:Int).toNat) 0=_
      rw[J5,l_s,l_r h2]
      rfl
    have hcut:(Z.map fun z:Int=>(C7 sum all ws).getD z.toNat 0).sum=((Z.take (sum-(x4 sum all ws).sum)).map fun z:Int=>(C7 sum all ws).getD z.toNat 0).sum+((Z.drop (sum-(x4 sum all ws).sum)).map fun z:Int=>(C7 sum all ws).getD z.toNat 0).sum:=by
     conv=>lhs;rw[←G3 (sum-(x4 sum all ws).sum) Z,K9,a2q]
    have hdr:∀z∈Z.drop (sum-(x4 sum all ws).sum),(C7 sum all ws).getD z.toNat 0≤0:=fun z hz=>by
     rw[←G3 (sum-(x4 sum all ws).sum) Z]at hs
     have hrk:=(List.pairwise_append.1 hs).2.2 _ hm z hz
     unfold Rk at hrk
     simp only at hrk
     omega
    have h3:=(a3O (fun z:Int=>(C7 sum all ws).getD z.toNat 0) 0 hdr).1
    have h4:=(a3O (fun z:Int=>(C7 sum all ws).getD z.toNat 0) (all-1) (T:=Z.take (sum-(x4 sum all ws).sum)) fun z _=>hrl z).2 _ hm hr0
    rw[v8,Nat.min_eq_left (by omega)]at h4
    obtain⟨d,hd⟩:∃d,sum=(x4 sum all ws).sum+d:=⟨sum-(x4 sum all ws).sum,by omega⟩
    have hd2:sum-(x4 sum all ws).sum=d:=by omega
    rw[hd2]at h3 h4 hcut hm
    obtain⟨m,hm1⟩:∃m,all=m+1:=⟨all-1,by omega⟩
    have h5:d*all=(C7 sum all ws).sum:=by
     have h6:sum*all=(x4 sum all ws).sum*all+d*all:=by
      conv=>lhs;rw[hd,Q9]
     omega
    rw[hsz]at hcut
    have h7:d*all=d*(all-1)+d:=by rw[hm1,a4n,Nat.mul_succ]
    have h8:d=0:=by omega
    rw[h8]at hm
    simp at hm
  ·have hlt:sum*ws[i]<all*ws[i]:=Nat.mul_lt_mul_of_pos_right (by omega) (by omega)
   have hq2:sum*ws[i]/all<ws[i]:=(Nat.div_lt_iff_lt_mul hall).2 (by rw[a0m (ws[i])];exact hlt)
   split<;>omega
theorem c3Q{s:Nat}{P:List Int}(hask:M7 s P=0)(hle:(s:Int)≤P.sum){k:Nat}(hk:k<P.length)(hk2:k<(shF s P).length):(shF s P)[k]≤P[k]:=by
 obtain⟨hw0,hw1,hf,hs0,hs1,hs2,hs3⟩:=b5u hask
 by_cases hz:P.sum=0
 ·have h0:s=0:=by omega
  have:=(a4E hask).2.2 _ (l_v hk2)
  have hp:=(hf _ (l_v hk)).1
  omega
 ·obtain⟨hep,_⟩:=a6Q hask
  have he:I9 P=P.map Int.toNat:=by unfold I9;rw[if_neg hz]
  have hsum:=b0i (P.map Int.toNat)
  rw[V5 hf]at hsum
  have hb:=(a5r s P).le hep rfl (by rw[he];omega) k (by rw[a6P];exact hk)
  rw[l_s,l_r hk2]at hb
  simp only[Option.getD_some,he,W9]at hb
  have hp:=(hf _ (l_v hk)).1
  omega
theorem b3w{o:Odr}(h:OkO o)(i:Int):∀u∈T7 o i,0≤u.share∧u.share≤4294967296:=by
 intro u hu
 refine⟨?_,by have:=(a1K h i 3 u hu).2;omega⟩
 obtain⟨k,hk,rfl⟩:=U9 hu
 have hl:=a1L h i 3
 have hv:=(M3 o.ls h.count).2.2 i
 have hk':k<(l6 o.ls).length:=by rw[←hl];exact hk
 have e0:(a2y o 0).toNat=o.disc.toNat:=rfl
 have e1:(a2y o 1).toNat=o.tax.toNat:=rfl
 have e2:(a2y o 2).toNat=o.ship.toNat:=rfl
 have h0:=h.sh 0
 have h1:=h.sh 1
 have h2:=h.sh 2
 rw[e0]at h0
 rw[e1]at h1
 rw[e2]at h2
 rw[a7L h i (by omega) (by omega) (by omega) (by omega) hk]
 have b1:=h1.2.2 _ (l_v (l:=shF o.tax.toNat (l6 o.ls)) (n:=k) (by omega))
 have b2:=h2.2.2 _ (l_v (l:=shF o.ship.toNat (l6 o.ls)) (n:=k) (by omega))
 have hask:=h.ask h.disc
 have hd0:=h.disc.1
 rw[←Int.toNat_of_nonneg hd0]at hask
 have b0:=c3Q hask (by rw[(M3 o.ls h.count).2.1,Int.toNat_of_nonneg hd0];exact h.le) hk' (by omega)
 have hp:((D9 i o.ls)[k]'(by omega)).share=(l6 o.ls)[k]:=by
  have:=hv.2
  simp only[←this,W9]
 show 0≤((D9 i o.ls)[k]'(by omega)).share-_+_+_
 rw[hp]
 omega
theorem b9Z{C:Cfg}(hok:K4 C):∀u∈j8 C,0≤u.share∧u.share≤4294967296:=by
 intro u hu
 rw[j8,l_y]at hu
 rcases hu with hu|hu
 ·have:∀(os:List Odr) (j:Nat),(∀o∈os,OkO o)→∀u∈D8 j os,0≤u.share∧u.share≤4294967296:=by
   intro os
   induction os with
   |nil=>intro j _ u hu;cases hu
   |cons o os ih=>
    intro j h u hu
    rw[D8,l_y]at hu
    rcases hu with hu|hu
    ·exact b3w (h o (by simp)) j u hu
    ·exact ih (j+1) (fun x hx=>h x (by simp[hx])) u hu
  exact this C.os 0 hok.okO u hu
 ·simp only[List.mem_flatMap,T6,List.mem_replicate]at hu
  obtain⟨s,hs,_,rfl⟩:=hu
  have:=(hok.2.2.2.2.1.1 s hs).2.1
  exact⟨this.1,by have:=this.2;show s.price≤_;omega⟩
end
section
set_option maxHeartbeats 8000000
def C9(ps:List Pol)(k:Int):Pol:=if 0≤k then ps.getD k.toNat Pol.zero else Pol.zero
def j6(U:List Unt)(u:Int):Unt:=U.getD u.toNat ⟨0,0,0,0⟩
def a1m(ps:List Pol)(U:List Unt)(rea u g:Int):Int:=if g=4 then(j6 U u).share else if 0≤g then wrt (C9 ps (j6 U u).cat) (j6 U u).share rea g else 0
def a4L(ps:List Pol)(U:List Unt)(r:Ret)(i:Nat):Int:=(((r.us.zip r.gs).take i).map fun x=>a1m ps U r.rea x.1 x.2).sum
def Q3(ps:List Pol)(U:List Unt)(r:Ret):Int:=((r.us.zip r.gs).map fun x=>a1m ps U r.rea x.1 x.2).sum
theorem a7N:Pol.zero.right:=by
 simp[Pol.right,Pol.zero,T4,Y6]
theorem N9{ps:List Pol}(h:a3o ps)(k:Int):(C9 ps k).right:=by
 unfold C9
 split
 ·rw[l_s]
  by_cases hk:k.toNat<ps.length
  ·rw[l_r hk];exact h.2 _ (l_v hk)
  ·rw[a0l (by omega)];exact a7N
 ·exact a7N
theorem b9o{ps:List Pol}{i:Nat}(hi:i<ps.length):C9 ps (i:Int)=ps[i]:=by
 rw[C9,if_pos (by omega),J5,l_s,l_r hi];rfl
theorem b6s{ps:List Pol}{k:Int}(hk:k<0∨(ps.length:Int)≤k):C9 ps k=Pol.zero:=by
 unfold C9
 split
 ·rw[l_s,a0l (by omega)];rfl
 ·rfl
def b6H(U:List Unt):Prop:=∀u∈U,0≤u.share∧u.share≤4294967296
theorem K6{U:List Unt}(h:b6H U)(u:Int):0≤(j6 U u).share∧(j6 U u).share≤4294967296:=by
 unfold j6
 rw[l_s]
 by_cases hk:u.toNat<U.length
 ·rw[l_r hk];exact h _ (l_v hk)
 ·rw[a0l (by omega)];exact⟨by decide,by decide⟩
theorem b2c{ps:List Pol}{U:List Unt}(hp:a3o ps)(hU:b6H U)(rea u g:Int):0≤a1m ps U rea u g∧a1m ps U rea u g≤4294967296:=by
 have h1:=K6 hU u
 unfold a1m
 split
 ·exact h1
 ·split
  ·have:=a5u (p:=C9 ps (j6 U u).cat) (sh:=(j6 U u).share) (r:=rea) (g:=g) (N9 hp _) h1.1
   omega
  ·omega
theorem b2j{ps:List Pol}{U:List Unt}{r:Ret}(hl:r.gs.length=r.us.length):a4L ps U r r.us.length=Q3 ps U r:=by
 unfold a4L Q3
 rw[a2o (by rw[List.length_zip];omega)]
theorem a8f{ps:List Pol}{U:List Unt}{r:Ret}(hp:a3o ps)(hU:b6H U)(i:Nat):0≤a4L ps U r i∧a4L ps U r i≤4294967296*i:=by
 have h:∀l:List (Int×Int),0≤(l.map fun x=>a1m ps U r.rea x.1 x.2).sum∧(l.map fun x=>a1m ps U r.rea x.1 x.2).sum≤4294967296*l.length:=by
  intro l
  induction l with
  |nil=>simp
  |cons x l ih=>
   have:=b2c hp hU r.rea x.1 x.2
   rw[H3,L0,l_f]
   omega
 have h1:=h ((r.us.zip r.gs).take i)
 have h2:((r.us.zip r.gs).take i).length≤i:=by rw[v8];omega
 unfold a4L
 omega
theorem b7g{h0 h:c9}{l:List HP}{A:Option Addr}{c:Nat}{xs:List Pol}(S:St h0 h l)(ha:∀h',St h0 h' l→Arr Pol.enc 16 h' A xs)(k:Int):
  d8 Tryz.prog 66 [.slice A xs.length c,.int .i64 k] h fun v h'=>St h0 h' l∧∃e,v= .tuple #[.agg (C9 xs k).enc.toArray,.int .i64 e]:=by
 refine(c4d S ha k).mono ?_
 rintro v h' ⟨S,⟨i,hi,rfl,rfl⟩|⟨hk,rfl⟩⟩
 ·exact⟨S,0,by rw[b9o hi]⟩
 ·exact⟨S,10,by rw[b6s hk]⟩
end
section
set_option maxHeartbeats 16000000
def t8(ss:List Sup)(sku:Int):Option Int:=match ss with
 | []=>none
 |s::ss=>if s.sku=sku then some s.price else t8 ss sku
theorem a7v{ss:List Sup}{sku:Int}:∀{i:Nat} (hi:i<ss.length),(∀s∈ss.take i,s.sku≠sku)→ss[i].sku=sku→t8 ss sku=some ss[i].price:=by
 induction ss with
 |nil=>intro i hi;simp at hi
 |cons s ss ih=>
  intro i hi h1 h2
  match i with
  |0=>simp only[List.getElem_cons_zero]at h2⊢;rw[t8,if_pos h2]
  |i+1=>
   rw[t8,if_neg (h1 s (by simp))]
   exact ih (by simpa using hi) (fun x hx=>h1 x (by simp[hx])) h2
theorem a7w{ss:List Sup}{sku:Int}(h:∀s∈ss,s.sku≠sku):t8 ss sku=none:=by
 induction ss with
 |nil=>rfl
 |cons s ss ih=>rw[t8,if_neg (h s (by simp)),ih fun x hx=>h x (by simp[hx])]
theorem b1S{ss:List Sup}{sku:Int}{i:Nat}(hi:i<ss.length)(h1:∀s∈ss.take i,s.sku≠sku)(h2:¬ss[i].sku=sku):∀s∈ss.take (i+1),s.sku≠sku:=by
 rw[l_t hi]
 intro s hs
 rcases List.mem_append.1 hs with hs|hs
 ·exact h1 s hs
 ·rw[T9]at hs;rw[hs];exact h2
theorem a4N{h0:c9}(C:Cfg)(sku:Int)(r:Arr Sup.enc 3 h0 C.A2 C.ss)(l2:C.ss.length<1000000):
  d8 Tryz.prog 192 [.agg C.enc.toArray,.int .i64 sku] h0 fun v h'=>v= .tuple #[.int .i64 ((t8 C.ss sku).getD 0),.int .i64 (if(t8 C.ss sku).isSome then 0 else 7)]∧Fr h0 h' []:=by
 have S:=St.nil h0
 refine EN i192.eq_1 fun K hK=>Wa ?_
 (revert S;(try clear F);refine AL fun g h S F=> ?_)
 refine Wc F @Cfg.enc.eq_1 ?_
 refine lI (fun ρ h'=>ρ 1= .int .i64 sku∧ρ 9= .slice C.A2 C.ss.length C.c2∧ρ 10= .int .i64 C.ss.length∧(∃i:Nat,ρ 11= .int .i64 i∧i≤C.ss.length∧∀s∈C.ss.take i,s.sku≠sku)∧St h0 h' []) (fun ρ _=>C.ss.length-(iv (ρ 11)).toNat) ?_ ?_
 ·refine Wa ?_
  exact⟨⟨0,rfl,by omega,by simp⟩,S.tl⟩
 clear S F
 rintro ρ h J hJ ⟨e1,e9,e10,⟨i,e11,hi,hne⟩,S⟩
 refine Wc e10 e11 ?_
 refine cD (fun hlt=> ?_) (fun hlt=> ?_)
 ·have hil:i<C.ss.length:=by omega
  obtain⟨b,off,hA,hr1⟩:=(r.fr S.fr (by simp)).at hil
  have hat:=fun h=>a7v (sku:=sku) hil hne h
  have hsn:=fun h=>b1S (sku:=sku) hil hne h
  generalize C.ss[i]=x at*
  refine We e9 e11 hA hr1 ?_
  (revert S;(try clear F);refine AL fun q h S F=> ?_)
  refine Wc F @Sup.enc.eq_1 ?_
  (revert S;(try clear F);refine ST fun h S F=> ?_)
  by_cases c1:x.sku=sku
  ·refine Wd F e1 c1 ?_
   exact hK _ _ ⟨by rw[hat c1];rfl,S.fr⟩
  ·refine We F e1 c1 e11 ?_
   refine hJ _ _ ?_ ?_
   ·refine Wd e1 e9 e10 ?_
    exact⟨⟨i+1,rfl,by omega,hsn c1⟩,S.tl⟩
   ·refine Wb e11 ?_
    omega
 ·obtain rfl:i=C.ss.length:=by omega
  rw[D4]at hne
  refine Wa ?_
  exact hK _ _ ⟨by rw[a7w hne];rfl,S.fr⟩
theorem a4O{h0:c9}(C:Cfg)(sku:Int)(r:Arr Sup.enc 3 h0 C.A2 C.ss)(l2:C.ss.length<1000000):
  d8 Tryz.prog 159 [.agg C.enc.toArray,.int .i64 sku] h0 fun v h'=>v= .tuple #[.int .i64 ((t8 C.ss sku).getD 0),.bool (t8 C.ss sku).isSome]∧Fr h0 h' []:=by
 have S:=St.nil h0
 refine EN i159.eq_1 fun K hK=>Wa ?_
 (revert S;(try clear F);refine AL fun g h S F=> ?_)
 refine Wc F @Cfg.enc.eq_1 ?_
 refine lI (fun ρ h'=>ρ 1= .int .i64 sku∧ρ 2= .pointer (some ⟨g,0,none⟩)∧ρ 9= .int .i64 C.ss.length∧(∃i:Nat,ρ 10= .int .i64 i∧i≤C.ss.length∧∀s∈C.ss.take i,s.sku≠sku)∧St h0 h' [d9 g C.enc 26]) (fun ρ _=>C.ss.length-(iv (ρ 10)).toNat) ?_ ?_
 ·refine Wa ?_
  exact⟨⟨0,rfl,by omega,by simp⟩,S⟩
 clear S F
 rintro ρ h J hJ ⟨e1,e2,e9,⟨i,e10,hi,hne⟩,S⟩
 refine Wc e9 e10 ?_
 refine cD (fun hlt=> ?_) (fun hlt=> ?_)
 ·have hil:i<C.ss.length:=by omega
  obtain⟨b,off,hA,hr1⟩:=(r.fr S.fr (by simp)).at hil
  have hat:=fun h=>a7v (sku:=sku) hil hne h
  have hsn:=fun h=>b1S (sku:=sku) hil hne h
  generalize C.ss[i]=x at*
  have hq0:=rP0 hr1 (by omega)
  have hq1:=rP hr1 1 (by omega)
  simp only[Sup.enc,l_o,l_p]at hq0 hq1
  ((try clear F);have F:=S.fx)
  by_cases c1:x.sku=sku
  ·refine Wi e2 F @Cfg.enc.eq_1 e10 hA hq0 e1 (Pc c1 hq1) ?_
   exact hK _ _ ⟨by rw[hat c1];rfl,S.fr⟩
  ·refine Wi e2 F @Cfg.enc.eq_1 e10 hA hq0 e1 c1 ?_
   refine hJ _ _ ?_ ?_
   ·refine Wd e1 e2 e9 ?_
    exact⟨⟨i+1,rfl,by omega,hsn c1⟩,S⟩
   ·refine Wb e10 ?_
    omega
 ·obtain rfl:i=C.ss.length:=by omega
  rw[D4]at hne
  refine Wa ?_
  exact hK _ _ ⟨by rw[a7w hne];rfl,S.fr⟩
end
structure Wk where
 s:Sag
 sd:List Msg
structure Cmd where
 kind:Int
 ord:Int
 us:List Int
 rea:Int
 want:Int
 cred:Bool
 rma:Int
 unit:Int
 grade:Int
 days:Int
 key:Int
 yes:Bool
abbrev w64(n:Int):Int:=IntKind.i64.wrap n
def J3(a b:Int):Prop:=a=0∧b=1∨a=1∧(b=2∨b=6)∨a=2∧(b=3∨b=4∨b=5∨b=8)∨a=3∧b=7∨a=7∧(b=3∨b=8)∨a=8∧(b=0∨b=6)
instance (a b:Int):Decidable (J3 a b):=by unfold J3;exact inferInstance
def a5g(u:KU)(to:Int):KU:=⟨to,u.sku,u.recv||decide (to=2),u.grad||decide (u.place=2)⟩
def KU0:KU:=⟨0,0,false,false⟩
def H9(K:List KU)(n to:Int):Int:=if 0≤n∧n<K.length then(if J3 (i8 K n) to then 0 else 8)else 7
def E0(K:List KU)(n to:Int):List KU:=if H9 K n to=0 then K.set n.toNat (a5g (K.getD n.toNat KU0) to)else K
def a1Q(K:List KU)(sku:Int):Option Nat:=K.findIdx? fun u=>decide (u.place=3∧u.sku=sku)
def E1(st by_:Int):Option Int:=
 if by_=1∧st=1 then some 2 else if by_=2∧st=2 then some 3 else if by_=3∧st=3 then some 4 else if by_=4∧st=4∨by_=5∧st=3 then some 5
 else if by_=6∧st=5 then some 6 else if(by_=7∨by_=8∨by_=9)∧(st=1∨st=2)then some by_ else none
def Led.get(l:Led)(n:Int):Int:=if n=0 then l.a else if n=1 then l.b else if n=2 then l.c else if n=3 then l.d else l.e
def Led.put(l:Led)(n v:Int):Led:=if n=0 then {l with a:=v}else if n=1 then {l with b:=v}else if n=2 then {l with c:=v}else if n=3 then {l with d:=v}else {l with e:=v}
def okC(n:Int):Prop:= -1125899906842624≤n∧n≤1125899906842624
instance (n:Int):Decidable (okC n):=by unfold okC;exact inferInstance
def a1i(l:Led)(a b sum:Int):Except Int Led:=
 if sum<0 then .error 1 else if okC (l.get a)∧okC (l.get b)∧okC sum∧okC (l.get a-sum)∧okC (l.get b+sum)then .ok ((l.put a (l.get a-sum)).put b (l.get b+sum))else .error 9
def Sag.at_(s:Sag)(n:Int):Option Ret:=if 1≤n then s.R[(n-1).toNat]? else none
def Wk.R(w:Wk)(i:Nat):Ret:=w.s.R.getD i Ret.zero
def Wk.put(w:Wk)(i:Nat)(r:Ret):Wk:={w with s:={w.s with R:=w.s.R.set i r} }
def Wk.led(w:Wk)(l:Led):Wk:={w with s:={w.s with led:=l} }
def Wk.mv(w:Wk)(n to:Int):Wk:={w with s:={w.s with K:=E0 w.s.K n to} }
def I4(w:Wk)(kind num value:Int):Wk:=
 ⟨{w.s with key:=w.s.key+1,O:=w.s.O++ [⟨w.s.key,kind,num,value,1,w.s.now+1⟩]},w.sd++ [⟨w.s.key,kind,num,value,1,w.s.now+1⟩]⟩
def j2(w:Wk)(i:Nat):Wk:=if 0≤(w.R i).res then(w.mv (w.R i).res 3).put i {w.R i with res:= -1}else w
def dropL(O:List Msg)(num:Int):List Msg:=O.filter fun m=> !decide (m.rma=num∧m.kind=1)
def L7(w:Wk)(num by_:Int):Except Int Wk:=
 match w.s.at_ num with
 |none=> .error 7
 |some r=>match E1 r.state by_ with
  |none=> .error 8
  |some st=>
   let w2:=j2 (w.put (num-1).toNat {r with state:=st}) (num-1).toNat
   .ok {w2 with s:={w2.s with T:=without w2.s.T num,O:=dropL w2.s.O num} }
def H2(w:Wk)(num by_:Int):Except Int Wk:=
 match w.s.at_ num with
 |none=> .error 7
 |some r=>match E1 r.state by_ with
  |none=> .error 8
  |some st=> .ok (w.put (num-1).toNat {r with state:=st})
def t6(w:Wk)(us:List Int)(to:Int):Wk:=us.foldl (fun w u=>w.mv u to) w
def a2B(w:Wk)(num d:Int):Wk:={w with s:={w.s with T:=setT w.s.T num d} }
def R6(w:Wk)(num:Int):Wk:={w with s:={w.s with T:=without w.s.T num} }
def a2x(w:Wk)(num:Int):Except Int Wk:=
 (H2 w num 2).bind fun w1=>let w2:=t6 w1 (w1.R (num-1).toNat).us 1;.ok (a2B w2 num (w2.s.now+30))
def O0(w:Wk)(num:Int):Except Int Wk:=
 (H2 w num 3).bind fun w1=>let w2:=t6 w1 (w1.R (num-1).toNat).us 2;.ok (R6 w2 num)
def Q0(w:Wk)(a b sum:Int):Except Int Wk:=(a1i w.s.led a b sum).map w.led
def V6(w:Wk)(i:Nat)(sum:Int):Except Int Wk:=Q0 (w.put i {w.R i with credd:=w64 ((w.R i).credd+sum)}) 1 3 sum
def R4(w:Wk)(i:Nat)(sum:Int):Except Int Wk:=if sum=0 then .ok w else if(w.R i).cred=true then V6 w i sum else .ok (I4 w 2 (w.R i).num sum)
def y8(w:Wk)(i:Nat):Wk:=if(w.R i).state=5∧n6 (w.R i).num w.s.O=0 then w.put i {w.R i with state:=6}else w
def G4(ss:List Sup)(w:Wk)(i:Nat)(by_:Int):Except Int Wk:=
 match E1 (w.R i).state by_ with
 |none=> .error 8
 |some st=>
  (Q0 (w.put i {w.R i with state:=st}) 0 1 (w.R i).worth).bind fun w1=>
   let price:=(t8 ss (w1.R i).want).getD 0
   (if 0≤(w1.R i).res then(if(w1.R i).worth<price then R4 (j2 w1 i) i (w1.R i).worth else R4 (I4 w1 3 (w1.R i).num (w1.R i).res) i (w64 ((w1.R i).worth-price)))else R4 w1 i (w1.R i).worth).map fun w2=>y8 w2 i
def u9(U:List Unt)(w:Wk)(i:Nat):Nat→Wk
 |0=>w
 |j+1=>
  let w1:=u9 U w i j
  let u:=(w1.R i).us.getD j 0
  (w1.mv u 6).put i {w1.R i with gs:=(w1.R i).gs.set j 4,worth:=w64 ((w1.R i).worth+(j6 U u).share)}
def a7i(ss:List Sup)(U:List Unt)(w:Wk)(i:Nat):Except Int Wk:=G4 ss (u9 U w i (w.R i).us.length) i 5
def a1w(ss:List Sup)(U:List Unt)(w:Wk)(num:Int):Except Int Wk:=
 match w.s.at_ num with
 |none=> .error 7
 |some r=>if r.state=3 then a7i ss U w (num-1).toNat else if r.state=1∨r.state=2 then L7 w num 8 else .ok w
def M1{α:Type}(f:Wk→α→Except Int Wk):Wk→List α→Except Int Wk
 |w,[]=> .ok w
 |w,x::l=>(f w x).bind fun w1=>M1 f w1 l
def a1T(ss:List Sup)(U:List Unt)(w:Wk)(days:Int):Except Int (Wk×List Msg):=
 if days<1∨1000<days then .error 1 else if 100000<w.s.now+days then .error 2 else
  let now:=w.s.now+days
  (M1 (a1w ss U) {w with s:={w.s with now:=now,T:=N6 w.s.T now} } ((O3 w.s.T now).map Tm.num)).bind fun w1=>
   (M1 (fun w (m:Msg)=>L7 w m.rma 8) {w1 with s:={w1.s with O:=y9 now w1.s.O} } (x5 now w1.s.O)).map fun w2=>(w2,A9 now w1.s.O)
def a0E(w:Wk)(i:Nat)(sum:Int)(yes:Bool):Except Int Wk:=
 if yes=true then Q0 (w.put i {w.R i with paid:=w64 ((w.R i).paid+sum)}) 1 2 sum else V6 w i sum
def I6(ss:List Sup)(w:Wk)(i:Nat)(yes:Bool):Except Int Wk:=
 let price:=(t8 ss (w.R i).want).getD 0
 if yes=true then
  let w1:=w.put i {w.R i with given:=w64 ((w.R i).given+price)}
  if H9 w1.s.K (w1.R i).res 8=0 then Q0 (w1.mv (w1.R i).res 8) 1 4 price else .error (H9 w1.s.K (w1.R i).res 8)
 else R4 (j2 w i) i price
def I7(yes:Bool):Int:=if yes=true then 0 else 6
def Y1(ss:List Sup)(w:Wk)(key:Int)(yes:Bool):Except Int Wk:=
 match w.s.O.findIdx? fun m=>decide (m.key=key)with
 |none=> .error 16
 |some j=>
  let m:=w.s.O.getD j Msg.zero
  let w1:Wk:={w with s:={w.s with O:=w.s.O.take j++w.s.O.drop (j+1)} }
  match w1.s.at_ m.rma with
  |none=> .error 7
  |some _=>
   let i:=(m.rma-1).toNat
   if m.kind=1∧yes=false then L7 w1 m.rma 8 else
    (if m.kind=1 then H2 w1 m.rma 1 else if m.kind=2 then a0E w1 i m.value yes else if m.kind=3 then I6 ss w1 i yes
     else if H9 w1.s.K m.value (I7 yes)=0 then .ok (w1.mv m.value (I7 yes))else .error (H9 w1.s.K m.value (I7 yes))).map fun w2=>y8 w2 i
noncomputable def N5(r:Ret)(unit grade:Int):Except Int Nat:=if dcd (r.right∧btw grade 0 4)=false then .error 1 else match r.us.findIdx? fun u=>decide (u=unit)with
 |none=> .error 7
 |some j=>if r.gs.getD j 0≠-1 then .error 8 else .ok j
noncomputable def a0M(ps:List Pol)(ss:List Sup)(U:List Unt)(w:Wk)(c:Cmd)(i j:Nat):Except Int Wk:=
 let r:=w.R i
 let x:=j6 U c.unit
 let p:=C9 ps x.cat
 let w1:=w.put i {r with gs:=r.gs.set j c.grade,worth:=w64 (r.worth+wrt p x.share r.rea c.grade)}
 let w2:=if p.gto c.grade≠0 then w1.mv c.unit (p.gto c.grade)else I4 (w1.mv c.unit 8) 4 r.num c.unit
 if(w2.R i).gs.contains (-1)=true then .ok w2 else G4 ss w2 i 4
noncomputable def T1(ps:List Pol)(ss:List Sup)(U:List Unt)(w:Wk)(c:Cmd):Except Int Wk:=
 match w.s.at_ c.rma with
 |none=> .error 7
 |some r=>if r.state≠4 then .error 8 else match N5 r c.unit c.grade with
  | .error e=> .error e
  | .ok j=>if c.grade=4 then .error 1 else a0M ps ss U w c (c.rma-1).toNat j
def G8(s:Sag)(u:Int):Int:=((s.R.find? fun r=> !decide (6≤r.state∧r.state≤9)&&r.us.contains u).map Ret.num).getD 0
def b1r(p:Pol)(days:Int)(wants:Bool):Int:=if p.fin=true∨p.exc=true∧wants=false then 12 else if days<0∨p.w<days then 11 else 0
def E3(U:List Unt)(c:Cmd)(i:Nat):Prop:=(0<i→c.us.getD (i-1) 0<c.us.getD i 0)∧0≤c.us.getD i 0∧c.us.getD i 0<U.length∧(j6 U (c.us.getD i 0)).ord=c.ord
def F8(ps:List Pol)(os:List Odr)(U:List Unt)(s:Sag)(c:Cmd)(u:Int):Int:=
 if i8 s.K u≠0∨0<G8 s u then 13 else b1r (C9 ps (j6 U u).cat) (s.now-((os[c.ord.toNat]?).map Odr.day).getD 0) (decide (0<c.want))
def a0i{α:Type}(f:α→Int):List α→Int
 | []=>0
 |x::l=>if f x=0 then a0i f l else f x
noncomputable def N2(ps:List Pol)(os:List Odr)(U:List Unt)(s:Sag)(c:Cmd):Int:=
 if dcd (∀i,i<c.us.length→E3 U c i)=false then 1 else if c.rea<0∨4≤c.rea∨1000<c.want then 1 else a0i (F8 ps os U s c) c.us
def V8(ss:List Sup)(w:Wk)(sku:Int):Except Int (Int×Wk):=
 if sku=0 then .ok (-1,w)else match t8 ss sku with
 |none=> .error 14
 |some _=>match a1Q w.s.K sku with
  |none=> .error 14
  |some j=> .ok ((j:Int),{w with s:={w.s with K:=w.s.K.set j {w.s.K.getD j KU0 with place:=7} } })
noncomputable def E2(ps:List Pol)(os:List Odr)(ss:List Sup)(U:List Unt)(w:Wk)(c:Cmd):Except Int (Int×Wk):=
 if 100≤w.s.R.length then .error 15 else if c.ord<0∨(os.length:Int)≤c.ord then .error 7 else
  if N2 ps os U w.s c≠0 then .error (N2 ps os U w.s c)else
   (V8 ss w c.want).map fun x=>
    let num:Int:=w.s.R.length+1
    let r:Ret:=⟨num,c.ord,c.rea,c.want,x.1,c.cred||c.us.any fun u=>(C9 ps (j6 U u).cat).cre,1,w.s.now,c.us,c.us.map fun _=> -1,0,0,0,0⟩
    (num,I4 {x.2 with s:={x.2.s with R:=w.s.R++ [r],T:=setT x.2.s.T num (w.s.now+14)} } 1 num 0)
noncomputable def doP(D:Cfg)(U:List Unt)(w:Wk)(c:Cmd):Except Int (Int×List Msg×Wk):=
 if c.kind=1 then(E2 D.ps D.os D.ss U w c).map fun x=>(x.1,[],x.2)
 else if c.kind=2 then(L7 w c.rma 9).map fun x=>(0,[],x)
 else if c.kind=3 then(L7 w c.rma 7).map fun x=>(0,[],x)
 else if c.kind=4 then(a2x w c.rma).map fun x=>(0,[],x)
 else if c.kind=5 then(O0 w c.rma).map fun x=>(0,[],x)
 else if c.kind=6 then(T1 D.ps D.ss U w c).map fun x=>(0,[],x)
 else if c.kind=7 then(a1T D.ss U w c.days).map fun x=>(0,x.2,x.1)
 else(Y1 D.ss w c.key c.yes).map fun x=>(0,[],x)
def Cmd.bare(c:Cmd):Cmd:=if c.kind=1 then {c with ord:=0,us:=[],rea:=0,want:=0,cred:=false}else if 2≤c.kind∧c.kind≤5 then {c with rma:=0}else if c.kind=6 then {c with rma:=0,unit:=0,grade:=0}else if c.kind=7 then {c with days:=0}else if c.kind=8 then {c with key:=0,yes:=false}else c
def Cmd.nought(c:Cmd):Prop:=c.ord=0∧c.us=[]∧c.rea=0∧c.want=0∧c.cred=false∧c.rma=0∧c.unit=0∧c.grade=0∧c.days=0∧c.key=0∧c.yes=false
def Cmd.fits(c:Cmd):Prop:=
 if c.kind=1 then(1≤c.us.length∧c.us.length≤60)∧btw c.ord 0 255∧btw c.rea 0 255∧btw c.want 0 65535∧∀u∈c.us,btw u 0 255
 else if 2≤c.kind∧c.kind≤5 then btw c.rma 0 65535 else if c.kind=6 then btw c.rma 0 65535∧btw c.unit 0 255∧btw c.grade 0 255 else if c.kind=7 then btw c.days 0 65535 else if c.kind=8 then btw c.key 0 4294967295 else False
def Cmd.formed(c:Cmd):Prop:=c.fits∧c.bare.nought
noncomputable def O8(D:Cfg)(U:List Unt)(s:Sag)(c:Cmd):Int×List Msg×Int×Sag:=
 if dcd c.formed=false then(0,[],1,s)else match doP D U ⟨s,[]⟩ c with
 | .error e=>(0,[],e,s)
 | .ok x=>(x.1,x.2.2.sd++x.2.1,0,x.2.2.s)
section
set_option maxHeartbeats 4000000
section
variable{h0 h:c9}{l:List HP}{t:Nat}{L:List Tm}
end
end
theorem b4h(W:List Tm)(x:Tm):b2N W x=(W.takeWhile fun y=>decide (m7 y x))++x::W.dropWhile fun y=>decide (m7 y x):=by
 have h1:W.take (a8d W x)=W.takeWhile fun y=>decide (m7 y x):=(List.prefix_iff_eq_take.1 (List.takeWhile_prefix _)).symm
 have h2:W.drop (a8d W x)=W.dropWhile fun y=>decide (m7 y x):=by
  have h3:(W.takeWhile fun y=>decide (m7 y x))++(W.dropWhile fun y=>decide (m7 y x))=W:=List.takeWhile_append_dropWhile
  conv=>lhs;rw[←h3]
  unfold a8d
  rw[h3]
  conv=>lhs;arg 2;rw[←h3]
  rw[List.drop_left]
 unfold b2N
 rw[h1,h2]
theorem b3t{W:List Tm}{x y:Tm}(hy:y∈W.takeWhile fun y=>decide (m7 y x)):m7 y x:=by
 have:=List.all_takeWhile (p:=fun y=>decide (m7 y x)) (l:=W)
 rw[List.all_eq_true]at this
 simpa using this y hy
theorem b7V{W:List Tm}(hs:W.Pairwise m7){x y:Tm}(hy:y∈W.dropWhile fun y=>decide (m7 y x)):¬m7 y x:=by
 induction W with
 |nil=>simp at hy
 |cons a W ih=>
  rw[List.dropWhile_cons]at hy
  by_cases ha:m7 a x
  ·rw[if_pos (by simpa using ha)]at hy
   exact ih (List.pairwise_cons.1 hs).2 hy
  ·rw[if_neg (by simpa using ha)]at hy
   rcases List.mem_cons.1 hy with rfl|hy
   ·exact ha
   ·exact fun h=>ha (a1o ((List.pairwise_cons.1 hs).1 y hy) h)
theorem a5x{x y:Tm}(h1:¬m7 y x)(h2:y.num≠x.num):m7 x y:=by
 unfold m7 at*
 omega
theorem b8k{W:List Tm}{x:Tm}(hg:a0c W)(hx:∀y∈W,y.num≠x.num):a0c (b2N W x):=by
 rw[b4h]
 have hsub1:∀y∈W.takeWhile (fun y=>decide (m7 y x)),y∈W:=fun y hy=>(List.takeWhile_sublist _).subset hy
 have hsub2:∀y∈W.dropWhile (fun y=>decide (m7 y x)),y∈W:=fun y hy=>(List.dropWhile_sublist _).subset hy
 have hW:(W.takeWhile fun y=>decide (m7 y x))++(W.dropWhile fun y=>decide (m7 y x))=W:=List.takeWhile_append_dropWhile
 constructor
 ·have h1:=hg.1
  rw[←hW,a1c]at h1
  rw[a1c,List.pairwise_cons]
  refine⟨h1.1,⟨fun y hy=>a5x (b7V hg.1 hy) (hx y (hsub2 y hy)),h1.2.1⟩,fun a ha b hb=> ?_⟩
  rcases List.mem_cons.1 hb with rfl|hb
  ·exact b3t ha
  ·exact h1.2.2 a ha b hb
 ·have h1:=hg.2
  rw[←hW,a1c]at h1
  rw[a1c,List.pairwise_cons]
  refine⟨h1.1,⟨fun y hy=>(hx y (hsub2 y hy)).symm,h1.2.1⟩,fun a ha b hb=> ?_⟩
  rcases List.mem_cons.1 hb with rfl|hb
  ·exact hx a (hsub1 a ha)
  ·exact h1.2.2 a ha b hb
theorem b1d{L M:List Tm}(hg:a0c L)(hs:M.Sublist L):a0c M:=⟨hg.1.sublist hs,hg.2.sublist hs⟩
theorem T0{L:List Tm}(hg:a0c L)(n:Int):a0c (without L n):=b1d hg List.filter_sublist
theorem b5S{L:List Tm}(hg:a0c L)(d:Int):a0c (N6 L d):=b1d hg (List.dropWhile_sublist _)
theorem O1{L:List Tm}{n:Int}{y:Tm}(hy:y∈without L n):y∈L∧y.num≠n:=by
 unfold without at hy
 rw[List.mem_filter]at hy
 exact⟨hy.1,by simpa[Y3]using hy.2⟩
theorem b1c{L:List Tm}(hg:a0c L)(n d:Int):a0c (setT L n d):=b8k (T0 hg n) fun y hy=>(O1 hy).2
end Go.Proofs.YtjagmebglhbdkaaGreat.MX
