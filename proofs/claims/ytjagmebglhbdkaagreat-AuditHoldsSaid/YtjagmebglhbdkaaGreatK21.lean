import Derived.Test.YtjagmebglhbdkaaGreatK20
namespace Go.Proofs.YtjagmebglhbdkaaGreat.MX
open Go Go.Proofs
set_option linter.unusedSimpArgs false
set_option linter.unusedVariables false
section
set_option maxHeartbeats 16000000
theorem a8g{o:Odr}(h:OkO o)(i:Int){k:Nat}(hk:k<(E2 i o.ls).length)(h1:k<(shF o.disc.toNat (m7 o.ls)).length)(h2:k<(shF o.tax.toNat (m7 o.ls)).length)(h3:k<(shF o.ship.toNat (m7 o.ls)).length)(h4:k<(U7 o i).length):
  (U7 o i)[k]={(E2 i o.ls)[k]with share:=(E2 i o.ls)[k].share-(shF o.disc.toNat (m7 o.ls))[k]+(shF o.tax.toNat (m7 o.ls))[k]+(shF o.ship.toNat (m7 o.ls))[k]}:=by
 simp only[U7,U8,a3H,List.getElem_zipWith,a2M,b0v]
 congr 1
 omega
section
variable{h0 h:c9}{l:List HP}
theorem b6e(C:Cfg)(r:∀h',St h0 h' l→C.rd h')(hok:K7 C)(S:St h0 h l):
  d8 Tryz.prog 44 [.agg C.enc.toArray] h fun v h'=>St h0 h' (i4 Unt.enc 4 74 v (l9 C)::l):=by
 obtain⟨_,k1,k2,k3,k4,k5⟩:=id hok
 have hOk:=hok.okO
 have ht:a6g C=C2 C.os+E8 C.ss:=rfl
 have hob:=W6 k3
 have hsb:=a0l k4.1
 refine EN i44.eq_1 fun K hK=>Wa ?_
 (revert S;(try clear F);refine AL fun g h S F=> ?_)
 have S:St h0 h (i4 Unt.enc 4 74 (.slice none 0 0) []::_):=S.nilS
 refine Wc F @Cfg.enc.eq_1 ?_
 refine lI (fun ρ h'=>ρ 1= .pointer (some ⟨g,0,none⟩)∧ρ 16= .int .i64 C.os.length∧∃i:Nat,ρ 17= .int .i64 i∧i≤C.os.length∧∃(Au:Option Addr) (cu:Nat),ρ 3= .slice Au (E1 0 (C.os.take i)).length cu∧
  St h0 h' (i4 Unt.enc 4 74 (.slice Au (E1 0 (C.os.take i)).length cu) (E1 0 (C.os.take i))::d9 g C.enc 26::l)) (fun ρ _=>C.os.length-(iv (ρ 17)).toNat) ?_ ?_
 ·refine Wa ?_
  exact⟨0,rfl,by omega,none,0,rfl,S⟩
 clear S F
 rintro ρ h J hJ ⟨e1,e16,i,e17,hi,Au,cu,e3,S⟩
 refine Wc e16 e17 ?_
 refine cD (fun hlt=> ?_) (fun hlt=> ?_)
 ·have hil:i<C.os.length:=by omega
  obtain⟨b,off,hA,hr1⟩:=(r _ S.tl.tl).os.at hil
  have hmem:=l_v hil
  have hs1:=a7J hil
  have hrl:=fun {h'} (S:St h0 h' l)=>(r _ S).ls _ hmem
  have hO:=hOk _ hmem
  have hul:=a0W hO i
  have hlen:=a0k (os:=C.os.take i) 0 fun o ho=>hOk o (a1O ho)
  have hle:=a8c k3 i
  generalize C.os[i]=o at*
  generalize E1 0 (C.os.take i)=U at*
  have hcn:=hO.cnt
  have ho8:=hO.n1
  obtain⟨kk,hlk⟩:=hO.ls
  ((try clear F);have F:=S.fx)
  refine Wg e1 e17 F @Cfg.enc.eq_1 hA hr1 ?_
  (revert S;(try clear F);refine AL fun q h S F=> ?_)
  refine Wc F @Odr.enc.eq_1 ?_
  (revert S;(try clear F);refine ST fun h S F=> ?_)
  have S:St h0 h (i4 i6 1 2 (.slice none 0 0) []::_):=S.nilS
  refine Wc e3 F ?_
  refine lI (fun ρ' h'=>ρ' 1=ρ 1∧ρ' 16=ρ 16∧ρ' 17=ρ 17∧ρ' 4= .int .i64 i∧ρ' 5= .pointer (some ⟨q,0,none⟩)∧ρ' 7= .int .i64 U.length∧ρ' 29= .int .i64 o.ls.length∧∃k:Nat,ρ' 30= .int .i64 k∧k≤o.ls.length∧
   ∃(Ap Au:Option Addr) (cp cu:Nat),ρ' 6= .slice Ap (m7 (o.ls.take k)).length cp∧ρ' 3= .slice Au (U.length+(m7 (o.ls.take k)).length) cu∧
   St h0 h' (i4 i6 1 2 (.slice Ap (m7 (o.ls.take k)).length cp) (m7 (o.ls.take k))::i4 Unt.enc 4 74 (.slice Au (U.length+(m7 (o.ls.take k)).length) cu) (U++E2 i (o.ls.take k))::d9 q o.enc 86::d9 g C.enc 26::l)) (fun ρ' _=>o.ls.length-(iv (ρ' 30)).toNat) ?_ ?_
  ·refine Wa ?_
   refine⟨0,rfl,by omega,none,Au,0,cu,rfl,e3,?_⟩
   simp only[a2j,E2,List.flatMap_nil,D9]
   exact S.p2.p1
  have p1:=e1
  have p16:=e16
  have p17:=e17
  clear S F e1 e16 e17 e3 hr1
  rintro ρ' h J' hJ' ⟨e1,e16,e17,e4,e5,e7,e29,k,e30,hk,Ap,Au,cp,cu,e6,e3,S⟩
  refine Wc e29 e30 ?_
  refine cD (fun hlt2=> ?_) (fun hlt2=> ?_)
  ·have hkl:k<o.ls.length:=by omega
   obtain⟨b2,off2,hA2,hr2⟩:=(hrl S.tl.tl.tl.tl).at hkl
   have hu1:=a4u i hkl
   have hp1:=a6b hkl
   have hct:=a7c hlk (k+1)
   have hc1:=a3K hkl
   have hpl:=(M7 (o.ls.take k) fun x hx=>hO.count x (a1O hx)).1
   have hxl:=((M7 (o.ls.take k) fun x hx=>hO.count x (a1O hx)).2.2 i).1
   have hx:=hlk _ (l_v hkl)
   have hrx:=fun {h'} (S:St h0 h' l)=>(hrl S).at hkl
   generalize o.ls[k]=x at*
   obtain⟨⟨_,⟨hp0,hp1'⟩,hx0,hx1⟩,_⟩:=hx
   generalize m7 (o.ls.take k)=P at*
   generalize E2 i (o.ls.take k)=V at*
   have hq3:=rP hr2 3 (by omega)
   simp only[Lin.enc,l_o,l_p]at hq3
   ((try clear F);have F:=S.fx)
   refine Wg e5 e30 F @Odr.enc.eq_1 hA2 hq3 ?_
   have hadd:∀j:Nat,j≤x.count.toNat→(P++List.replicate j x.price).length=P.length+j∧P.length+j≤200∧(U++V++List.replicate j (⟨i,x.sku,x.cat,x.price⟩:Unt)).length=U.length+(P.length+j):=fun j hj=>by
    refine⟨by rw[l_m,G4],by omega,?_⟩
    rw[l_m,l_m,G4,hxl,Nat.add_assoc]
   refine lI (fun ρ'' h'=>ρ'' 1=ρ' 1∧ρ'' 16=ρ' 16∧ρ'' 17=ρ' 17∧ρ'' 4=ρ' 4∧ρ'' 5=ρ' 5∧ρ'' 7=ρ' 7∧ρ'' 29=ρ' 29∧ρ'' 30=ρ' 30∧ρ'' 8= .int .i64 k∧ρ'' 38= .int .i64 x.count∧∃j:Nat,ρ'' 39= .int .i64 j∧j≤x.count.toNat∧
    ∃(Ap Au:Option Addr) (cp cu:Nat),ρ'' 6= .slice Ap (P.length+j) cp∧ρ'' 3= .slice Au (U.length+(P.length+j)) cu∧
    St h0 h' (i4 i6 1 2 (.slice Ap (P.length+j) cp) (P++List.replicate j x.price)::i4 Unt.enc 4 74 (.slice Au (U.length+(P.length+j)) cu) (U++V++List.replicate j ⟨i,x.sku,x.cat,x.price⟩)::d9 q o.enc 86::d9 g C.enc 26::l)) (fun ρ'' _=>x.count.toNat-(iv (ρ'' 39)).toNat) ?_ ?_
   ·refine Wc e5 e30 ?_
    exact⟨0,rfl,by omega,Ap,Au,cp,cu,e6,e3,by simp only[List.replicate_zero,D9,H8];exact S⟩
   have p1:=e1
   have p16:=e16
   have p17:=e17
   have p4:=e4
   have p5:=e5
   have p7:=e7
   have p29:=e29
   have p30:=e30
   clear S F e1 e16 e17 e4 e5 e7 e29 e30 e3 e6 hq3 hr2
   rintro ρ'' h J'' hJ'' ⟨e1,e16,e17,e4,e5,e7,e29,e30,e8,e38,j,e39,hj,Ap,Au,cp,cu,e6,e3,S⟩
   refine Wc e38 e39 ?_
   refine cD (fun hlt3=> ?_) (fun hlt3=> ?_)
   ·have hjl:j<x.count.toNat:=by omega
    obtain⟨hl1,hl2,hl3⟩:=hadd j (by omega)
    obtain⟨hm1,hm2,hm3⟩:=hadd (j+1) (by omega)
    have er1:P++List.replicate j x.price++ [x.price]=P++List.replicate (j+1) x.price:=by rw[l_q,←List.replicate_succ']
    have er2:U++V++List.replicate j (⟨i,x.sku,x.cat,x.price⟩:Unt)++ [⟨i,x.sku,x.cat,x.price⟩]=U++V++List.replicate (j+1) ⟨i,x.sku,x.cat,x.price⟩:=by rw[l_q (U++V),←List.replicate_succ']
    obtain⟨b3,off3,hA3,hr3⟩:=hrx S.tl.tl.tl.tl
    have hq0:=rP0 hr3 (by omega)
    have hq1:=rP hr3 1 (by omega)
    have hq2:=rP hr3 2 (by omega)
    simp only[Lin.enc,l_o,l_p]at hq0 hq1 hq2
    ((try clear F);have F:=S.fx)
    refine Wa ?_
    refine dE ?_
    refine Wi e3 e4 p4 e5 p5 e8 F (Pf @Odr.enc.eq_1 hA3 hq0 hq1 hq2) ?_
    (revert S;(try clear F);refine AL fun r1 h S F=> ?_)
    refine Wa ?_
    refine tA1 (bytes:=32) (x:=(⟨i,x.sku,x.cat,x.price⟩:Unt)) Unt.enc_len (by omega) Unt.enc_plain rfl rfl S.p2.p1 (by omega) (by omega) ?_
    clear S F hq0 hq1 hq2 hr3
    intro v h S
    rw[er2]at S
    obtain⟨Au,cu,rfl⟩:=S.sl
    rw[hm3]at S⊢
    obtain⟨b4,off4,hA4,hr4⟩:=hrx S.tl.tl.tl.tl
    have hq2:=rP hr4 2 (by omega)
    simp only[Lin.enc,l_o,l_p]at hq2
    ((try clear F);have F:=S.fx)
    refine Wi e6 e5 p5 F @Odr.enc.eq_1 e8 hA4 hq2 ?_
    (revert S;(try clear F);refine AL fun r2 h S F=> ?_)
    refine Wa ?_
    refine tA1 (bytes:=8) (x:=x.price) zEl (by omega) zEp rfl rfl S.p2.p1 (by omega) (by omega) ?_
    clear S F hq2 hr4
    intro v h S
    rw[er1]at S
    obtain⟨Ap,cp,rfl⟩:=S.sl
    rw[hm1]at S⊢
    refine Wb e39 ?_
    refine hJ'' _ _ ?_ ?_
    ·refine Wi e1 e16 e17 e4 e5 e7 e29 (Pd e30 e8 e38) ?_
     exact⟨j+1,rfl,by omega,Ap,Au,cp,cu,rfl,rfl,S⟩
    ·refine Wb e39 ?_
     omega
   ·obtain rfl:j=x.count.toNat:=by omega
    obtain⟨hl1,hl2,hl3⟩:=hadd x.count.toNat (by omega)
    have hpx:(P++b1Q x).length=P.length+x.count.toNat:=hl1
    have hux:U++(V++b9s i x)=U++V++List.replicate x.count.toNat ⟨i,x.sku,x.cat,x.price⟩:=by rw[←l_q];rfl
    refine Wc e30 p30 ?_
    refine hJ' _ _ ?_ ?_
    ·refine Wi e1 p1 e16 p16 e17 p17 e4 (Pf p4 e5 p5 e7 (Pd p7 e29 p29)) ?_
     exact⟨k+1,rfl,by omega,Ap,Au,cp,cu,by rw[hp1,hpx];exact e6,by rw[hp1,hpx];exact e3,by rw[hu1,hp1,hpx,hux];exact S⟩
    ·refine Wb p30 ?_
     omega
  obtain rfl:k=o.ls.length:=by omega
  rw[C9]at S e6 e3
  clear hJ'
  have hXl:=a0W hO i
  have hYl:=((M7 o.ls hO.count).2.2 i)
  have hPl:=(M7 o.ls hO.count).1
  have hat:=fun {k} (hk:k<(E2 i o.ls).length) h1 h2 h3 h4=>a8g hO i hk h1 h2 h3 h4
  have hVb:∀u∈E2 (i:Int) o.ls,0≤u.share∧u.share≤1073741824:=fun u hu=>by
   obtain⟨v1,v2⟩:=a3Z hO u.share (by rw[←hYl.2];exact a0I hu)
   exact⟨v1,v2⟩
  obtain⟨dN,hdN⟩:∃n:Nat,o.disc=n:=⟨o.disc.toNat,by have:=hO.disc.1;omega⟩
  obtain⟨tN,htN⟩:∃n:Nat,o.tax=n:=⟨o.tax.toNat,by have:=hO.tax.1;omega⟩
  obtain⟨sN,hsN⟩:∃n:Nat,o.ship=n:=⟨o.ship.toNat,by have:=hO.ship.1;omega⟩
  have a1:N3 dN (m7 o.ls)=0:=by rw[←hdN];exact hO.ask hO.disc
  have a2:N3 tN (m7 o.ls)=0:=by rw[←htN];exact hO.ask hO.tax
  have a3:N3 sN (m7 o.ls)=0:=by rw[←hsN];exact hO.ask hO.ship
  obtain⟨b1l,_,b1b⟩:=a4V a1
  obtain⟨b2l,_,b2b⟩:=a4V a2
  obtain⟨b3l,_,b3b⟩:=a4V a3
  have hd30:=hO.disc.2
  have ht30:=hO.tax.2
  have hs30:=hO.ship.2
  rw[hdN,htN,hsN,K0,K0,K0]at hat
  rw[hdN]at hd30
  rw[htN]at ht30
  rw[hsN]at hs30
  have i1:=a5J dN (m7 o.ls)
  have i2:=a5J tN (m7 o.ls)
  have i3:=a5J sN (m7 o.ls)
  generalize shF dN (m7 o.ls)=D1 at*
  generalize shF tN (m7 o.ls)=D2 at*
  generalize shF sN (m7 o.ls)=D3 at*
  generalize hW:U7 o i=W at*
  generalize hV:E2 (i:Int) o.ls=V at*
  generalize hP:m7 o.ls=P at*
  obtain⟨n,hn⟩:∃n,P.length=n:=⟨_,rfl⟩
  have hn200:n≤200:=by omega
  have hn0:0<n:=by
   have:=O7 hlk
   have:=hO.n0
   omega
  have rx2:∀K t,j8 (fun h'=>St h0 h' _) (fun h'=>rd1 h' (.pointer (some ⟨q,2,none⟩))) K t=D7 (some (.int .i64 o.disc)) K ⟨⟩:=fun K t=>E7 S (fun h' s=>m8 s.p2)
  have rx3:∀K t,j8 (fun h'=>St h0 h' _) (fun h'=>rd1 h' (.pointer (some ⟨q,3,none⟩))) K t=D7 (some (.int .i64 o.tax)) K ⟨⟩:=fun K t=>E7 S (fun h' s=>m8 s.p2)
  have rx4:∀K t,j8 (fun h'=>St h0 h' _) (fun h'=>rd1 h' (.pointer (some ⟨q,4,none⟩))) K t=D7 (some (.int .i64 o.ship)) K ⟨⟩:=fun K t=>E7 S (fun h' s=>m8 s.p2)
  refine Wa ?_
  refine Z8 S ?_
  refine Wi e5 rx2 rx3 rx4 hdN htN hsN e6 ?_
  refine cI (a3F dN P (fun h' S=>S.arr zEl) a1 i1 S) ?_
  clear S rx2 rx3 rx4
  intro v1 h S
  try refine⟨S.tl,?_⟩
  refine Wa ?_
  refine cI (a3F tN P (fun h' S=>S.p1.arr zEl) a2 i2 S) ?_
  clear S
  intro v2 h S
  try refine⟨S.tl.tl,?_⟩
  refine Wa ?_
  refine cI (a3F sN P (fun h' S=>S.p2.arr zEl) a3 i3 S) ?_
  clear S
  intro v3 h S
  obtain⟨A3,c3,rfl⟩:=S.sl
  obtain⟨A2,c2,rfl⟩:=S.p1.sl
  obtain⟨A1,c1,rfl⟩:=S.p2.sl
  have S:=S.p4
  rw[hn]at S e6 e3
  rw[b1l,b2l,b3l,hn]at S⊢
  obtain⟨bu,rfl⟩:=S.ownAt (by rw[l_m];omega)
  obtain⟨q3,rfl⟩:=S.p1.ownAt (by omega)
  obtain⟨q2,rfl⟩:=S.p2.ownAt (by omega)
  obtain⟨q1,rfl⟩:=S.p3.ownAt (by omega)
  have hXY:(U++W).length=(U++V).length:=by rw[l_m,l_m];omega
  refine Wb e6 ?_
  refine lI (fun ρ'' h'=>ρ'' 1=ρ' 1∧ρ'' 16=ρ' 16∧ρ'' 17=ρ' 17∧ρ'' 3= .slice (some ⟨bu,0,none⟩) (U.length+n) cu∧ρ'' 7= .int .i64 U.length∧ρ'' 9= .slice (some ⟨q1,0,none⟩) n c1∧ρ'' 10= .slice (some ⟨q2,0,none⟩) n c2∧ρ'' 11= .slice (some ⟨q3,0,none⟩) n c3∧ρ'' 88= .int .i64 n∧∃k:Nat,ρ'' 89= .int .i64 k∧k≤n∧
   St h0 h' (i4 Unt.enc 4 74 (.slice (some ⟨bu,0,none⟩) (U.length+n) cu) ((U++W).take (U.length+k)++(U++V).drop (U.length+k))::i4 i6 1 2 (.slice (some ⟨q3,0,none⟩) n c3) D3::i4 i6 1 2 (.slice (some ⟨q2,0,none⟩) n c2) D2::i4 i6 1 2 (.slice (some ⟨q1,0,none⟩) n c1) D1::
    i4 i6 1 2 (.slice Ap n cp) P::d9 q o.enc 86::d9 g C.enc 26::l)) (fun ρ'' _=>n-(iv (ρ'' 89)).toNat) ?_ ?_
  ·refine Wc e3 e7 ?_
   refine⟨0,rfl,by omega,?_⟩
   rw[H8,List.take_left',List.drop_left']<;>first|exact S|rfl
  have p1':=e1
  have p16':=e16
  have p17':=e17
  clear S e1 e16 e17 e4 e5 e7 e29 e30 e6 e3
  rintro ρ'' h J'' hJ'' ⟨e1,e16,e17,e3,e7,e9,e10,e11,e88,k,e89,hk,S⟩
  refine Wc e88 e89 ?_
  refine cD (fun hlt3=> ?_) (fun hlt3=> ?_)
  ·have hkn:k<n:=by omega
   have hml:=b0q (U++W) (U++V) hXY (U.length+k)
   have hlUV:(U++V).length=U.length+n:=by rw[l_m];omega
   have hru:=u2 Unt.enc_len S (i:=U.length+k) (j:=3) (by omega) (by omega)
   have hmg:=b0p (U++W) (U++V) hXY (k:=U.length+k) (by omega)
   have hgV:(U++V)[U.length+k]'(by omega)=V[k]'(by omega):=by rw[List.getElem_append_right (by omega)];simp
   have hgW:(U++W)[U.length+k]'(by omega)=W[k]'(by omega):=by rw[List.getElem_append_right (by omega)];simp
   have hset:=b5A (U++W) (U++V) hXY (k:=U.length+k) (by omega)
   rw[hmg,hgV]at hru
   rw[hgV]at hmg
   have hr1:=F8 S.p3 (i:=k) (l_r (by omega))
   have hr2:=F8 S.p2 (i:=k) (l_r (by omega))
   have hr3:=F8 S.p1 (i:=k) (l_r (by omega))
   have hwk:=hat (k:=k) (by omega) (by omega) (by omega) (by omega) (by omega)
   have hb0:=hVb _ (l_v (l:=V) (n:=k) (by omega))
   have hb1:=b1b _ (l_v (l:=D1) (n:=k) (by omega))
   have hb2:=b2b _ (l_v (l:=D2) (n:=k) (by omega))
   have hb3:=b3b _ (l_v (l:=D3) (n:=k) (by omega))
   rw[hgW,hwk]at hset
   generalize D1[k]'(by omega)=x1 at*
   generalize D2[k]'(by omega)=x2 at*
   generalize D3[k]'(by omega)=x3 at*
   generalize V[k]'(by omega)=u at*
   simp only[Unt.enc,l_p,l_o]at hru
   have w0:IntKind.i64.wrap ((U.length:Int)+k)=((U.length+k:Nat):Int):=a3G rfl (by omega)
   have w1:IntKind.i64.wrap (u.share-x1)=u.share-x1:=u5 (by omega) (by omega)
   have w2:IntKind.i64.wrap (u.share-x1+x2)=u.share-x1+x2:=u5 (by omega) (by omega)
   have w3:IntKind.i64.wrap (u.share-x1+x2+x3)=u.share-x1+x2+x3:=u5 (by omega) (by omega)
   refine Wa ?_
   refine dE ?_
   refine Wi e3 e7 e89 e9 e10 e11 w0 (Pf hru hr1 hr2 hr3 (Pd w1 w2 w3)) ?_
   refine G8 Unt.enc_len (i:=U.length+k) (j:=3) (x:={u with share:=u.share-x1+x2+x3}) S (by omega) (by omega) (x9 4) rfl rfl (by rw[hmg];rfl) ?_
   clear S hru hr1 hr2 hr3
   intro h S
   rw[hset]at S
   refine Wb e89 ?_
   refine hJ'' _ _ ?_ ?_
   ·refine Wi e1 e16 e17 e3 e7 e9 e10 (Pc e11 e88) ?_
    exact⟨k+1,rfl,by omega,S⟩
   ·refine Wb e89 ?_
    omega
  ·obtain rfl:k=n:=by omega
   rw[a2E (by rw[l_m];omega),List.drop_of_length_le (by rw[l_m];omega),D9,←hs1]at S
   have hfl:(E1 0 (C.os.take (i+1))).length=U.length+k:=by rw[hs1,l_m];omega
   refine Wd e17 p17' p17 ?_
   refine hJ _ _ ?_ ?_
   ·refine Wg e1 p1' p1 e16 p16' p16 ?_
    exact⟨i+1,rfl,by omega,_,cu,by rw[hfl];exact e3,by rw[hfl];exact S.d1.d1.d1.d1.d1⟩
   ·refine Wb p17 ?_
    omega
 obtain rfl:i=C.os.length:=by omega
 rw[C9]at e3 S
 have hlen:=a0k (os:=C.os) 0 hOk
 clear hJ
 ((try clear F);have F:=S.fx)
 refine Wd e1 F @Cfg.enc.eq_1 ?_
 refine lI (fun ρ h'=>ρ 1= .pointer (some ⟨g,0,none⟩)∧ρ 124= .int .i64 C.ss.length∧∃i:Nat,ρ 125= .int .i64 i∧i≤C.ss.length∧∃(Au:Option Addr) (cu:Nat),ρ 3= .slice Au (E1 0 C.os++(C.ss.take i).flatMap U6).length cu∧
  St h0 h' (i4 Unt.enc 4 74 (.slice Au (E1 0 C.os++(C.ss.take i).flatMap U6).length cu) (E1 0 C.os++(C.ss.take i).flatMap U6)::d9 g C.enc 26::l)) (fun ρ _=>C.ss.length-(iv (ρ 125)).toNat) ?_ ?_
 ·refine Wb e1 ?_
  exact⟨0,rfl,by omega,Au,cu,by simp[e3],by simpa using S⟩
 clear S F e1 e16 e17 e3
 rintro ρ h J hJ ⟨e1,e124,i,e125,hi,Au,cu,e3,S⟩
 refine Wc e124 e125 ?_
 refine cD (fun hlt=> ?_) (fun hlt=> ?_)
 ·have hil:i<C.ss.length:=by omega
  have hrx:=fun {h'} (S:St h0 h' l)=>(r _ S).ss.at hil
  have hs1:E1 0 C.os++(C.ss.take (i+1)).flatMap U6=(E1 0 C.os++(C.ss.take i).flatMap U6)++U6 C.ss[i]:=by rw[a9K hil,l_q]
  have hx:=k4.1 _ (l_v hil)
  have hl2:=a4X (ss:=C.ss.take i) fun s hs=>k4.1 s (a1O hs)
  have hl3:=a8d k4.1 (i+1)
  rw[a2V hil]at hl3
  generalize C.ss[i]=x at*
  obtain⟨_,_,hx0,hx1⟩:=hx
  have hPl:((E1 0 C.os++(C.ss.take i).flatMap U6).length:Int)+x.count≤200:=by rw[l_m];omega
  generalize E1 0 C.os++(C.ss.take i).flatMap U6=P at*
  obtain⟨b,off,hA,hr1⟩:=hrx S.tl.tl
  have hq2:=rP hr1 2 (by omega)
  simp only[Sup.enc,l_o,l_p]at hq2
  ((try clear F);have F:=S.fx)
  refine Wg e1 e125 F @Cfg.enc.eq_1 hA hq2 ?_
  refine lI (fun ρ' h'=>ρ' 1= .pointer (some ⟨g,0,none⟩)∧ρ' 124=ρ 124∧ρ' 125=ρ 125∧ρ' 13= .int .i64 i∧ρ' 133= .int .i64 x.count∧∃j:Nat,ρ' 134= .int .i64 j∧j≤x.count.toNat∧
   ∃(Au:Option Addr) (cu:Nat),ρ' 3= .slice Au (P.length+j) cu∧
   St h0 h' (i4 Unt.enc 4 74 (.slice Au (P.length+j) cu) (P++List.replicate j ⟨-1,x.sku,0,x.price⟩)::d9 g C.enc 26::l)) (fun ρ' _=>x.count.toNat-(iv (ρ' 134)).toNat) ?_ ?_
  ·refine Wc e1 e125 ?_
   exact⟨0,rfl,by omega,Au,cu,e3,by simp only[List.replicate_zero,D9,H8];exact S⟩
  have p124:=e124
  have p125:=e125
  clear S F e1 e124 e125 e3 hr1 hq2
  rintro ρ' h J' hJ' ⟨e1,e124,e125,e13,e133,j,e134,hj,Au,cu,e3,S⟩
  refine Wc e133 e134 ?_
  refine cD (fun hlt2=> ?_) (fun hlt2=> ?_)
  ·have hjl:j<x.count.toNat:=by omega
   have er2:P++List.replicate j (⟨-1,x.sku,0,x.price⟩:Unt)++ [⟨-1,x.sku,0,x.price⟩]=P++List.replicate (j+1) ⟨-1,x.sku,0,x.price⟩:=by rw[l_q,←List.replicate_succ']
   have hll:(P++List.replicate j (⟨-1,x.sku,0,x.price⟩:Unt)).length=P.length+j:=by rw[l_m,G4]
   have hll2:(P++List.replicate (j+1) (⟨-1,x.sku,0,x.price⟩:Unt)).length=P.length+(j+1):=by rw[l_m,G4]
   obtain⟨b3,off3,hA3,hr3⟩:=hrx S.tl.tl
   have hq0:=rP0 hr3 (by omega)
   have hq1:=rP hr3 1 (by omega)
   simp only[Sup.enc,l_o,l_p]at hq0 hq1
   ((try clear F);have F:=S.fx)
   refine Wa ?_
   refine dE ?_
   refine Wi e3 e1 e13 F @Cfg.enc.eq_1 hA3 hq0 hq1 ?_
   (revert S;(try clear F);refine AL fun r1 h S F=> ?_)
   refine Wa ?_
   refine tA1 (bytes:=32) (x:=(⟨-1,x.sku,0,x.price⟩:Unt)) Unt.enc_len (by omega) Unt.enc_plain rfl rfl S (by omega) (by omega) ?_
   clear S F hq0 hq1 hr3
   intro v h S
   rw[er2]at S
   obtain⟨Au,cu,rfl⟩:=S.sl
   rw[hll2]at S⊢
   refine Wb e134 ?_
   refine hJ' _ _ ?_ ?_
   ·refine Wf e1 e124 e125 e13 e133 ?_
    exact⟨j+1,rfl,by omega,Au,cu,rfl,S⟩
   ·refine Wb e134 ?_
    omega
  ·obtain rfl:j=x.count.toNat:=by omega
   have hrp:P++List.replicate x.count.toNat (⟨-1,x.sku,0,x.price⟩:Unt)=P++U6 x:=rfl
   have hll:(P++U6 x).length=P.length+x.count.toNat:=by rw[l_m,U6,G4]
   rw[hrp]at S
   refine Wc e125 p125 ?_
   refine hJ _ _ ?_ ?_
   ·refine Wd e1 e124 p124 ?_
    exact⟨i+1,rfl,by omega,Au,cu,by rw[hs1,hll];exact e3,by rw[hs1,hll];exact S⟩
   ·refine Wb p125 ?_
    omega
 obtain rfl:i=C.ss.length:=by omega
 rw[C9]at e3 S
 refine Wb e3 ?_
 exact hK _ _ S.d1
end
end
section
set_option maxHeartbeats 8000000
def c3W(C:Cfg):Prop:=C.os.length≤40∧C.ss.length≤40∧C.ps.length≤40∧∀o∈C.os,o.ls.length≤20
theorem c3C{h0:c9}(C:Cfg)(r:C.rd h0)(w:C.wf):
  d8 Tryz.prog 36 [.agg C.enc.toArray] h0 fun v h'=>v= .bool (dcd (c3W C))∧Fr h0 h' []:=by
 have S:=St.nil h0
 have r':∀{h':c9}{l:List HP},St h0 h' l→C.rd h':=fun S=>r.fr S.fr
 have hw:=w.l1
 have hw2:=w.m1
 by_cases d1:40<(C.os.length:Int)
 ·refine EN i36.eq_1 fun K hK=>Wa ?_
  (revert S;(try clear F);refine AL fun g h S F=> ?_)
  refine Wd F @Cfg.enc.eq_1 d1 ?_
  exact hK _ _ ⟨by rw[dF (fun h=>by have:=h.1;omega)],S.fr⟩
 by_cases d2:40<(C.ss.length:Int)
 ·refine EN i36.eq_1 fun K hK=>Wa ?_
  (revert S;(try clear F);refine AL fun g h S F=> ?_)
  refine We F @Cfg.enc.eq_1 d1 d2 ?_
  exact hK _ _ ⟨by rw[dF (fun h=>by have:=h.2.1;omega)],S.fr⟩
 by_cases d3:40<(C.ps.length:Int)
 ·refine EN i36.eq_1 fun K hK=>Wa ?_
  (revert S;(try clear F);refine AL fun g h S F=> ?_)
  refine Wf F @Cfg.enc.eq_1 d1 d2 d3 ?_
  exact hK _ _ ⟨by rw[dF (fun h=>by have:=h.2.2.1;omega)],S.fr⟩
 refine EN i36.eq_1 fun K hK=>Wa ?_
 (revert S;(try clear F);refine AL fun g h S F=> ?_)
 refine Wf F @Cfg.enc.eq_1 d1 d2 d3 ?_
 refine lI (fun ρ h'=>ρ 1= .pointer (some ⟨g,0,none⟩)∧ρ 22= .int .i64 C.os.length∧∃i:Nat,ρ 23= .int .i64 i∧i≤C.os.length∧(∀o∈C.os.take i,o.ls.length≤20)∧St h0 h' [d9 g C.enc 26]) (fun ρ _=>C.os.length-(iv (ρ 23)).toNat) ?_ ?_
 ·refine Wa ?_
  exact⟨0,rfl,by omega,by simp,S⟩
 clear S F
 rintro ρ h J hJ ⟨e1,e22,i,e23,hi,hok,S⟩
 refine Wc e22 e23 ?_
 refine cD (fun hlt=> ?_) (fun hlt=> ?_)
 ·have hil:i<C.os.length:=by omega
  obtain⟨b,off,hA,hr1⟩:=(r' S).os.at hil
  have hmem:=l_v hil
  have htk:C.os[i].ls.length≤20→∀o∈C.os.take (i+1),o.ls.length≤20:=fun hx o ho=>by
   rw[l_t hil]at ho
   rcases List.mem_append.1 ho with ho|ho
   ·exact hok o ho
   ·rw[U1]at ho;rw[ho];exact hx
  generalize C.os[i]=o at*
  have hq1:=rP hr1 1 (by omega)
  simp only[Odr.enc,l_o,l_p]at hq1
  ((try clear F);have F:=S.fx)
  by_cases d4:20<(o.ls.length:Int)
  ·refine Wh e1 e23 F @Cfg.enc.eq_1 hA hq1 d4 ?_
   exact hK _ _ ⟨by rw[dF (fun h=>by have:=h.2.2.2 _ hmem;omega)],S.fr⟩
  ·refine Wh e1 e23 F @Cfg.enc.eq_1 hA hq1 d4 ?_
   refine hJ _ _ ?_ ?_
   ·refine Wc e1 e22 ?_
    exact⟨i+1,rfl,by omega,htk (by omega),S⟩
   ·refine Wb e23 ?_
    omega
 ·obtain rfl:i=C.os.length:=by omega
  rw[C9]at hok
  refine Wa ?_
  exact hK _ _ ⟨by rw[dT ⟨by omega,by omega,by omega,hok⟩],S.fr⟩
theorem a5a{C:Cfg}(hok:K7 C):((l9 C).length:Int)=a6g C∧(l9 C).length≤200:=by
 have h1:=a0k (os:=C.os) 0 hok.okO
 have h2:=a4X hok.2.2.2.2.1.1
 have h3:=hok.2.2.2.2.2
 have ht:a6g C=C2 C.os+E8 C.ss:=rfl
 rw[l9,l_m]
 omega
def c0C:Cfg:=⟨none,0,[],none,0,[],none,0,[]⟩
theorem c3s:K7 c0C:=⟨⟨by decide,by simp[c0C]⟩,by decide,by decide,by simp[c0C],⟨by simp[c0C],by simp[c0C]⟩,by decide⟩
end
section
set_option maxHeartbeats 8000000
section
variable{h0 h:c9}{l:List HP}
end
def c2p(l:Lin):List UInt8:=le 2 l.sku++(le 1 l.cat++(le 8 l.price++le 1 l.count))
def c4j(o:Odr):List UInt8:=le 4 o.day++(le 8 o.disc++(le 8 o.tax++(le 8 o.ship++(le 1 o.ls.length++o.ls.flatMap c2p))))
def supB(s:Sup):List UInt8:=le 2 s.sku++(le 8 s.price++le 1 s.count)
def encC(C:Cfg):List UInt8:=(le 2 (c3T C.ps).length++c3T C.ps)++(le 1 C.os.length++(C.os.flatMap c4j++(le 1 C.ss.length++C.ss.flatMap supB)))
section
variable{h0 h:c9}{l:List HP}
end
end
section
set_option maxHeartbeats 8000000
def Odr.pu(o:Odr):Int×Int×Int×Int×List Lin:=(o.day,o.disc,o.tax,o.ship,o.ls)
def Cfg.pu(C:Cfg):List Pol×List Sup×List (Int×Int×Int×Int×List Lin):=(C.ps,C.ss,C.os.map Odr.pu)
end
section
set_option maxHeartbeats 8000000
abbrev Q:=List UInt8×Bool
noncomputable def vi(q:Q):Int:=IntKind.i64.wrap (vl 8 q)
noncomputable def Q9(q:Q):List UInt8×Q:=if(stp 2 q).2=true∨(stp 2 q).1.length<(vl 2 q).toNat then([],([],true))else((stp 2 q).1.take (vl 2 q).toNat,((stp 2 q).1.drop (vl 2 q).toNat,false))
noncomputable def b3G(q:Q):Lin×Q:=(⟨vl 2 q,vl 1 (stp 2 q),vi (stp 1 (stp 2 q)),vl 1 (stp 8 (stp 1 (stp 2 q)))⟩,stp 1 (stp 8 (stp 1 (stp 2 q))))
noncomputable def c4n(q:Q):Sup×Q:=(⟨vl 2 q,vi (stp 2 q),vl 1 (stp 8 (stp 2 q))⟩,stp 1 (stp 8 (stp 2 q)))
noncomputable def M9{α:Type}(p:Q→α×Q):Nat→Q→List α×Q
 |0,q=>([],q)
 |n+1,q=>((M9 p n q).1++ [(p (M9 p n q).2).1],(p (M9 p n q).2).2)
abbrev POd:=Int×Int×Int×Int×List Lin
noncomputable def c4m(q:Q):POd×Q:=
 ((vl 4 q,vi (stp 4 q),vi (stp 8 (stp 4 q)),vi (stp 8 (stp 8 (stp 4 q))),(M9 b3G (vl 1 (stp 8 (stp 8 (stp 8 (stp 4 q))))).toNat (stp 1 (stp 8 (stp 8 (stp 8 (stp 4 q)))))).1),
  (M9 b3G (vl 1 (stp 8 (stp 8 (stp 8 (stp 4 q))))).toNat (stp 1 (stp 8 (stp 8 (stp 8 (stp 4 q)))))).2)
theorem a3m{α:Type}(p:Q→α×Q)(q:Q):∀n,(M9 p n q).1.length=n
 |0=>rfl
 |n+1=>by rw[M9,l_m,a3m p q n];rfl
theorem vl1(q:Q):0≤vl 1 q∧vl 1 q<256:=by have:=b3O 1 q.1 q.2;simpa[vl]using this
theorem vl2(q:Q):0≤vl 2 q∧vl 2 q<65536:=by have:=b3O 2 q.1 q.2;simpa[vl]using this
section
variable{h0 h:c9}{l:List HP}{i:Nat}{q:Q}
end
end
section
set_option maxHeartbeats 8000000
set_option maxRecDepth 20000
def b1X(o:Odr):HP:=i4 Lin.enc 4 117 (.slice o.A o.ls.length o.c) o.ls
theorem Z4{h0 h:c9}{L:List HP}{X:HP}(S:St h0 h L)(hx:X∈L):∃M,St h0 h (X::M):=by
 obtain⟨a,b,rfl⟩:=List.append_of_mem hx
 exact⟨_,S.perm List.perm_middle⟩
theorem b2x{h0 h:c9}{L l:List HP}{os:List Odr}(S:St h0 h (L++(os.map b1X++l))):∀o∈os,Arr Lin.enc 4 h o.A o.ls∧o.ls.length≤o.c∧o.c<9223372036854775808:=fun o ho=>by
 obtain⟨M,S⟩:=Z4 S (X:=b1X o) (a2l _ (Y0 _ (a0I ho)))
 obtain⟨_,h1,h2⟩:=S.cap
 exact⟨S.arr Lin.enc_len,h1,h2⟩
theorem b3F{k:Int}{x y:Odr}(h:x.pu=y.pu):J6 k x→J6 k y:=by
 obtain⟨a1,A1,c1,l1,d1,t1,s1⟩:=x
 obtain⟨a2,A2,c2,l2,d2,t2,s2⟩:=y
 simp only[Odr.pu,Prod.mk.injEq]at h
 obtain⟨rfl,rfl,rfl,rfl,rfl⟩:=h
 exact id
theorem a9t:∀{xs ys:List Odr},xs.map Odr.pu=ys.map Odr.pu→C2 xs=C2 ys
 | [],[],_=>rfl
 |x::xs,y::ys,h=>by
  simp only[G7,List.cons.injEq]at h
  have h1:=a9t h.2
  have h2:x.ls=y.ls:=congrArg (fun z=>z.2.2.2.2) h.1
  simp only[C2,G7,K1,h2]at h1⊢
  rw[h1]
 | [],y::ys,h=>by simp at h
 |x::xs,[],h=>by simp at h
theorem b2a{C D:Cfg}(h:C.pu=D.pu)(hok:K7 C):K7 D:=by
 have h1:C.ps=D.ps:=congrArg (fun z=>z.1) h
 have h2:C.ss=D.ss:=congrArg (fun z=>z.2.1) h
 have h3:C.os.map Odr.pu=D.os.map Odr.pu:=congrArg (fun z=>z.2.2) h
 have hl:C.os.length=D.os.length:=by have:=congrArg List.length h3;simpa using this
 obtain⟨k0,k1,k2,k3,k4,k5⟩:=hok
 refine⟨h1▸k0,by omega,by rw[←h2];exact k2,fun o ho=> ?_,h2▸k4,?_⟩
 ·have:o.pu∈C.os.map Odr.pu:=by rw[h3];exact a0I ho
  obtain⟨x,hx,e⟩:=List.mem_map.1 this
  rw[←h1]
  exact b3F e (k3 x hx)
 ·have e1:a6g C=C2 C.os+E8 C.ss:=rfl
  have e2:a6g D=C2 D.os+E8 D.ss:=rfl
  rw[e2,←a9t h3,←h2,←e1]
  exact k5
noncomputable def a8q(b:List UInt8):List POd×Q:=M9 c4m (vl 1 (Q9 (b,false)).2).toNat (stp 1 (Q9 (b,false)).2)
noncomputable def c1R(b:List UInt8):List Sup×Q:=M9 c4n (vl 1 (a8q b).2).toNat (stp 1 (a8q b).2)
def c3r(b:List UInt8)(C:Cfg):Prop:=K7 C∧c3T C.ps=(Q9 (b,false)).1∧C.os.map Odr.pu=(a8q b).1∧C.ss=(c1R b).1∧(c1R b).2=([],false)
section
variable{h0 h:c9}{l:List HP}
end
end
section
set_option maxHeartbeats 4000000
theorem G9{n:Nat}{q:Q}(h:(stp n q).2=false):q.2=false∧n≤q.1.length∧q.1=le n (vl n q)++(stp n q).1:=by
 obtain⟨bs,bad⟩:=q
 have hx:rdX n bs bad=false:=h
 unfold rdX at hx
 simp only[Bool.or_eq_false_iff,decide_eq_false_iff_not]at hx
 obtain⟨rfl,hl⟩:=hx
 refine⟨rfl,by simp only;omega,?_⟩
 show bs=le n (rdV n bs false)++rdB n bs false
 rw[rdV,rdB,if_neg (by simp;omega),if_neg (by simp;omega),b9n _ n (by rw[x4];omega),G0]
theorem b2K{q:Q}(h:0≤vi q):vi q=vl 8 q:=by
 have hv:=b3O 8 q.1 q.2
 have e:vl 8 q=rdV 8 q.1 q.2:=rfl
 rw[←e]at hv
 by_cases hb:vl 8 q<9223372036854775808
 ·exact u5 (by omega) hb
 ·exfalso
  have h1:vl 8 q<18446744073709551616:=by simpa using hv.2
  have:IntKind.i64.wrap (vl 8 q)=vl 8 q-18446744073709551616:=by
   generalize vl 8 q=x at*
   simp only[IntKind.wrap,IntKind.signed,IntKind.bits]
   simp
   omega
  unfold vi at h
  omega
def c1k{α:Type}(p:Q→α×Q)(f:α→List UInt8)(ok:α→Prop):Prop:=∀q,(p q).2.2=false→ok (p q).1→q.2=false∧q.1=f (p q).1++(p q).2.1
theorem a3h{α:Type}{p:Q→α×Q}{f:α→List UInt8}{ok:α→Prop}(hp:c1k p f ok):∀n q,(M9 p n q).2.2=false→(∀x∈(M9 p n q).1,ok x)→q.2=false∧q.1=(M9 p n q).1.flatMap f++(M9 p n q).2.1
 |0,q,h,_=>⟨h,by simp[M9]⟩
 |n+1,q,h,hok=>by
  have hs:M9 p (n+1) q=((M9 p n q).1++ [(p (M9 p n q).2).1],(p (M9 p n q).2).2):=rfl
  rw[hs]at h hok⊢
  obtain⟨h1,h2⟩:=hp _ h (hok _ (by simp))
  obtain⟨h3,h4⟩:=a3h hp n q h1 fun x hx=>hok x (by simp[hx])
  refine⟨h3,?_⟩
  rw[h4,h2]
  simp
theorem b9t(k:Int):c1k b3G c2p (W5 k):=by
 intro q h hok
 obtain⟨h1,_,e1⟩:=G9 h
 obtain⟨h2,_,e2⟩:=G9 h1
 obtain⟨h3,_,e3⟩:=G9 h2
 obtain⟨h4,_,e4⟩:=G9 h3
 refine⟨h4,?_⟩
 have hv:vi (stp 1 (stp 2 q))=vl 8 (stp 1 (stp 2 q)):=b2K hok.1.2.1.1
 show q.1=(le 2 (vl 2 q)++(le 1 (vl 1 (stp 2 q))++(le 8 (vi (stp 1 (stp 2 q)))++le 1 (vl 1 (stp 8 (stp 1 (stp 2 q)))))))++(stp 1 (stp 8 (stp 1 (stp 2 q)))).1
 rw[hv]
 conv=>lhs;rw[e4,e3,e2,e1]
 simp only[l_q]
theorem c0H:c1k c4n supB a6a:=by
 intro q h hok
 obtain⟨h1,_,e1⟩:=G9 h
 obtain⟨h2,_,e2⟩:=G9 h1
 obtain⟨h3,_,e3⟩:=G9 h2
 refine⟨h3,?_⟩
 have hv:vi (stp 2 q)=vl 8 (stp 2 q):=b2K hok.2.1.1
 show q.1=(le 2 (vl 2 q)++(le 8 (vi (stp 2 q))++le 1 (vl 1 (stp 8 (stp 2 q)))))++(stp 1 (stp 8 (stp 2 q))).1
 rw[hv]
 conv=>lhs;rw[e3,e2,e1]
 simp only[l_q]
def b9O(x:POd):List UInt8:=le 4 x.1++(le 8 x.2.1++(le 8 x.2.2.1++(le 8 x.2.2.2.1++(le 1 x.2.2.2.2.length++x.2.2.2.2.flatMap c2p))))
theorem b9P(o:Odr):b9O o.pu=c4j o:=rfl
def okP(k:Int)(x:POd):Prop:=(0≤x.1∧x.1≤100000)∧(x.2.2.2.2.length≤8)∧H0 x.2.1∧H0 x.2.2.1∧H0 x.2.2.2.1∧∀l∈x.2.2.2.2,W5 k l
theorem c4l{k:Int}{o:Odr}(h:J6 k o):okP k o.pu:=⟨h.1.1,h.1.2.1.2,h.1.2.2.1,h.1.2.2.2.1,h.1.2.2.2.2,h.2.1⟩
theorem b9Q(k:Int):c1k c4m b9O (okP k):=by
 intro q h hok
 obtain⟨_,_,⟨p1,_⟩,⟨p2,_⟩,⟨p3,_⟩,hl⟩:=hok
 obtain⟨h0,e0⟩:=a3h (b9t k) _ _ h hl
 obtain⟨h1,_,e1⟩:=G9 h0
 obtain⟨h2,_,e2⟩:=G9 h1
 obtain⟨h3,_,e3⟩:=G9 h2
 obtain⟨h4,_,e4⟩:=G9 h3
 obtain⟨h5,_,e5⟩:=G9 h4
 refine⟨h5,?_⟩
 have v1:vi (stp 4 q)=vl 8 (stp 4 q):=b2K p1
 have v2:vi (stp 8 (stp 4 q))=vl 8 (stp 8 (stp 4 q)):=b2K p2
 have v3:vi (stp 8 (stp 8 (stp 4 q)))=vl 8 (stp 8 (stp 8 (stp 4 q))):=b2K p3
 have hn:=vl1 (stp 8 (stp 8 (stp 8 (stp 4 q))))
 have hln:(((M9 b3G (vl 1 (stp 8 (stp 8 (stp 8 (stp 4 q))))).toNat (stp 1 (stp 8 (stp 8 (stp 8 (stp 4 q)))))).1.length:Nat):Int)=vl 1 (stp 8 (stp 8 (stp 8 (stp 4 q)))):=by rw[a3m];omega
 show q.1=(le 4 (vl 4 q)++(le 8 (vi (stp 4 q))++(le 8 (vi (stp 8 (stp 4 q)))++(le 8 (vi (stp 8 (stp 8 (stp 4 q))))++(le 1 ((M9 b3G (vl 1 (stp 8 (stp 8 (stp 8 (stp 4 q))))).toNat (stp 1 (stp 8 (stp 8 (stp 8 (stp 4 q)))))).1.length:Nat)++(M9 b3G (vl 1 (stp 8 (stp 8 (stp 8 (stp 4 q))))).toNat (stp 1 (stp 8 (stp 8 (stp 8 (stp 4 q)))))).1.flatMap c2p)))))++(M9 b3G (vl 1 (stp 8 (stp 8 (stp 8 (stp 4 q))))).toNat (stp 1 (stp 8 (stp 8 (stp 8 (stp 4 q)))))).2.1
 rw[hln,v1,v2,v3]
 conv=>lhs;rw[e5,e4,e3,e2,e1,e0]
 simp only[l_q]
theorem c2i(os:List Odr):(os.map Odr.pu).flatMap b9O=os.flatMap c4j:=by
 induction os with
 |nil=>rfl
 |cons o os ih=>rw[G7,X9,X9,ih,b9P]
theorem c3r.bytes{b:List UInt8}{C:Cfg}(h:c3r b C):encC C=b:=by
 obtain⟨hok,h1,h2,h3,h4⟩:=h
 obtain⟨k0,k1,k2,k3,k4,k5⟩:=hok
 have g1:=a3h c0H _ (stp 1 (a8q b).2) (show(c1R b).2.2=false by rw[h4]) (fun x hx=>k4.1 x (by rw[h3];exact hx))
 obtain⟨g2,g3⟩:=g1
 obtain⟨g4,_,g5⟩:=G9 g2
 have g6:=a3h (b9Q C.ps.length) _ (stp 1 (Q9 (b,false)).2) g4 (fun x hx=>by
  have hx:x∈(a8q b).1:=hx
  rw[←h2]at hx
  obtain⟨o,ho,rfl⟩:=List.mem_map.1 hx
  exact c4l (k3 o ho))
 obtain⟨g7,g8⟩:=g6
 obtain⟨g9,_,g10⟩:=G9 g7
 have hO:M9 c4m (vl 1 (Q9 (b,false)).2).toNat (stp 1 (Q9 (b,false)).2)=a8q b:=rfl
 have hS:M9 c4n (vl 1 (a8q b).2).toNat (stp 1 (a8q b).2)=c1R b:=rfl
 rw[hS,h4,←h3,D9]at g3
 rw[hO,←h2,c2i]at g8
 have n1:vl 1 (Q9 (b,false)).2=(C.os.length:Int):=by
  have:=congrArg List.length h2
  rw[←hO,a3m,l_z]at this
  have:=vl1 (Q9 (b,false)).2
  omega
 have n2:vl 1 (a8q b).2=(C.ss.length:Int):=by
  have:=congrArg List.length h3
  rw[←hS,a3m]at this
  have:=vl1 (a8q b).2
  omega
 rw[n1]at g10
 rw[n2]at g5
 have hb:b=le 2 (Q9 (b,false)).1.length++((Q9 (b,false)).1++(Q9 (b,false)).2.1):=by
  have hv:=vl2 (b,false)
  by_cases hc:(stp 2 (b,false)).2=true∨(stp 2 (b,false)).1.length<(vl 2 (b,false)).toNat
  ·have:Q9 (b,false)=([],([],true)):=by unfold Q9;rw[if_pos hc]
   rw[this]at g9
   cases g9
  ·have hR:Q9 (b,false)=((stp 2 (b,false)).1.take (vl 2 (b,false)).toNat,((stp 2 (b,false)).1.drop (vl 2 (b,false)).toNat,false)):=by unfold Q9;rw[if_neg hc]
   have hbf:(stp 2 (b,false)).2=false:=by cases h:(stp 2 (b,false)).2 with
    |false=>rfl
    |true=>exact(hc (.inl h)).elim
   obtain⟨_,_,e⟩:=G9 hbf
   have hln:((stp 2 (b,false)).1.take (vl 2 (b,false)).toNat).length=(vl 2 (b,false)).toNat:=by rw[x4];omega
   rw[hR]
   simp only[hln,G0]
   rw[Int.toNat_of_nonneg hv.1]
   exact e
 rw[encC,h1]
 conv=>rhs;rw[hb,g10,g8,g5,g3]
 simp only[l_q]
end
end Go.Proofs.YtjagmebglhbdkaaGreat.MX
