import Derived.Test.YtjagmebglhbdkaaGreatK19
import Derived.Test.YtjagmebglhbdkaaGreatK12
import Derived.Test.YtjagmebglhbdkaaGreatK18
import Derived.Test.YtjagmebglhbdkaaGreatK14
namespace Go.Proofs.YtjagmebglhbdkaaGreat.MX
open Go Go.Proofs
set_option linter.unusedSimpArgs false
set_option linter.unusedVariables false
section
set_option maxHeartbeats 8000000
theorem a4u(i:Int){ls:List Lin}{k:Nat}(hk:k<ls.length):E2 i (ls.take (k+1))=E2 i (ls.take k)++b9s i ls[k]:=by
 rw[l_t hk,E2,a1p]
 simp[E2]
theorem a6b{ls:List Lin}{k:Nat}(hk:k<ls.length):m7 (ls.take (k+1))=m7 (ls.take k)++b1Q ls[k]:=by
 rw[l_t hk,m7,a1p]
 simp[m7]
theorem a7c{k:Int}{ls:List Lin}(h:∀l∈ls,W5 k l)(i:Nat):H7 (ls.take i)≤H7 ls:=by
 have h1:=O7 (k:=k) (ls:=ls.drop i) fun l hl=>h l (List.mem_of_mem_drop hl)
 have:H7 ls=H7 (ls.take i)+H7 (ls.drop i):=by
  conv=>lhs;rw[←G0 i ls]
  rw[H7,L7,a2m];rfl
 omega
section
variable{h0 h:c9}{l:List HP}
theorem u2{α:Type}{enc:α→List Value}{sz T b n c:Nat}{D:List α}(hsz:∀x,(enc x).length=sz)(S:St h0 h (i4 enc sz T (.slice (some ⟨b,0,none⟩) n c) D::l)){i j:Nat}(hi:i<D.length)(hj:j<sz):rd1 h (.pointer (some ⟨b,i*sz+j,none⟩))=(enc D[i])[j]? :=by
 obtain⟨b',o',hA,hr⟩:=S.arr hsz i hi
 cases hA
 have:=rP hr j hj
 simpa using this
theorem c0P(o:Odr)(num:Int)(ok:OkO o)(ha:∀h',St h0 h' l→Arr Lin.enc 4 h' o.A o.ls)(S:St h0 h l):
  d8 Tryz.prog 80 [.agg o.enc.toArray,.int .i64 num] h fun v h'=>St h0 h' (i4 Unt.enc 4 97 v (U7 o num)::l):=by
 obtain⟨kk,hlk⟩:=ok.ls
 have hn0:=ok.n0
 have hn1:=ok.n1
 have hcnt:=ok.cnt
 refine EN i80.eq_1 fun K hK=>Wa ?_
 (revert S;(try clear F);refine AL fun g h S F=> ?_)
 have S:St h0 h (i4 i6 1 2 (.slice none 0 0) []::i4 Unt.enc 4 97 (.slice none 0 0) []::d9 g o.enc 86::l):=S.nilS.nilS
 refine Wc F @Odr.enc.eq_1 ?_
 refine lI (fun ρ h'=>ρ 1= .int .i64 num∧ρ 2= .pointer (some ⟨g,0,none⟩)∧ρ 16= .slice o.A o.ls.length o.c∧ρ 17= .int .i64 o.ls.length∧∃i:Nat,ρ 18= .int .i64 i∧i≤o.ls.length∧
  ∃(Ap Au:Option Addr) (cp cu:Nat),ρ 6= .slice Ap (m7 (o.ls.take i)).length cp∧ρ 5= .slice Au (m7 (o.ls.take i)).length cu∧
  St h0 h' (i4 i6 1 2 (.slice Ap (m7 (o.ls.take i)).length cp) (m7 (o.ls.take i))::i4 Unt.enc 4 97 (.slice Au (m7 (o.ls.take i)).length cu) (E2 num (o.ls.take i))::d9 g o.enc 86::l)) (fun ρ _=>o.ls.length-(iv (ρ 18)).toNat) ?_ ?_
 ·refine Wa ?_
  exact⟨0,rfl,by omega,none,none,0,0,rfl,rfl,S⟩
 clear S F
 rintro ρ h J hJ ⟨e1,e2,e16,e17,i,e18,hi,Ap,Au,cp,cu,e6,e5,S⟩
 refine Wc e17 e18 ?_
 refine cD (fun hlt=> ?_) (fun hlt=> ?_)
 ·have hil:i<o.ls.length:=by omega
  obtain⟨b,off,hA,hr1⟩:=(ha h S.tl.tl.tl).at hil
  have hs1:=a4u num hil
  have hs2:=a6b hil
  have hct:=a7c hlk (i+1)
  have hc1:=a3K hil
  have hpl:=(M7 (o.ls.take i) fun x hx=>ok.count x (a1O hx)).1
  have hul:=((M7 (o.ls.take i) fun x hx=>ok.count x (a1O hx)).2.2 num).1
  have hx:=hlk _ (l_v hil)
  generalize o.ls[i]=x at*
  obtain⟨⟨_,⟨hp0,hp1⟩,hx0,hx1⟩,_⟩:=hx
  generalize hP:m7 (o.ls.take i)=P at*
  generalize hU:E2 num (o.ls.take i)=U at*
  refine We e16 e18 hA hr1 ?_
  (revert S;(try clear F);refine AL fun q h S F=> ?_)
  refine Wc F @Lin.enc.eq_1 ?_
  (revert S;(try clear F);refine ST fun h S F=> ?_)
  refine Wb F ?_
  have hadd:∀j:Nat,j≤x.count.toNat→(P++List.replicate j x.price).length≤200:=fun j hj=>by rw[l_m,G4];omega
  refine lI (fun ρ' h'=>ρ' 1= .int .i64 num∧ρ' 2= .pointer (some ⟨g,0,none⟩)∧ρ' 16= .slice o.A o.ls.length o.c∧ρ' 17= .int .i64 o.ls.length∧ρ' 18= .int .i64 i∧ρ' 8= .pointer (some ⟨q,0,none⟩)∧ρ' 23= .int .i64 x.count∧∃j:Nat,ρ' 24= .int .i64 j∧j≤x.count.toNat∧
   ∃(Ap Au:Option Addr) (cp cu:Nat),ρ' 6= .slice Ap (P++List.replicate j x.price).length cp∧ρ' 5= .slice Au (P++List.replicate j x.price).length cu∧
   St h0 h' (i4 i6 1 2 (.slice Ap (P++List.replicate j x.price).length cp) (P++List.replicate j x.price)::i4 Unt.enc 4 97 (.slice Au (P++List.replicate j x.price).length cu) (U++List.replicate j ⟨num,x.sku,x.cat,x.price⟩)::d9 q x.enc 117::d9 g o.enc 86::l)) (fun ρ' _=>x.count.toNat-(iv (ρ' 24)).toNat) ?_ ?_
  ·refine Wh e1 e2 e16 e17 e18 e5 e6 ?_
   exact⟨0,rfl,by omega,Ap,Au,cp,cu,by simp,by simp,by simp only[List.replicate_zero,D9];exact S.p2.p2⟩
  have p18:=e18
  clear S F e1 e2 e16 e17 e18 e6 e5 hr1
  rintro ρ' h J' hJ' ⟨e1,e2,e16,e17,e18,e8,e23,j,e24,hj,Ap,Au,cp,cu,e6,e5,S⟩
  refine Wc e23 e24 ?_
  refine cD (fun hlt2=> ?_) (fun hlt2=> ?_)
  ·have hjl:j<x.count.toNat:=by omega
   have hl1:=hadd (j+1) (by omega)
   have hl0:=hadd j (by omega)
   have er1:P++List.replicate j x.price++ [x.price]=P++List.replicate (j+1) x.price:=by rw[l_q,←List.replicate_succ']
   have er2:U++List.replicate j (⟨num,x.sku,x.cat,x.price⟩:Unt)++ [⟨num,x.sku,x.cat,x.price⟩]=U++List.replicate (j+1) ⟨num,x.sku,x.cat,x.price⟩:=by rw[l_q,←List.replicate_succ']
   have hll:(U++List.replicate j (⟨num,x.sku,x.cat,x.price⟩:Unt)).length=(P++List.replicate j x.price).length:=by rw[l_m,l_m,G4,G4];omega
   have hll2:(P++List.replicate j x.price).length+1=(P++List.replicate (j+1) x.price).length:=by rw[l_m,l_m,G4,G4];omega
   ((try clear F);have F:=S.fx)
   refine Wf e1 e8 F @Lin.enc.eq_1 e5 ?_
   (revert S;(try clear F);refine AL fun r1 h S F=> ?_)
   refine Wa ?_
   refine tA1 (bytes:=32) (x:=(⟨num,x.sku,x.cat,x.price⟩:Unt)) Unt.enc_len (by omega) Unt.enc_plain rfl rfl S.p2.p1 (by omega) (by omega) ?_
   clear S F
   intro v h S
   rw[er2]at S
   obtain⟨Au,cu,rfl⟩:=S.sl
   rw[show(U++List.replicate (j+1) (⟨num,x.sku,x.cat,x.price⟩:Unt)).length=(P++List.replicate (j+1) x.price).length by rw[←hll2,←hll,←er2,l_m];rfl]at S⊢
   ((try clear F);have F:=S.fx)
   refine We e6 e8 F @Lin.enc.eq_1 ?_
   (revert S;(try clear F);refine AL fun r2 h S F=> ?_)
   refine Wa ?_
   refine tA1 (bytes:=8) (x:=x.price) zEl (by omega) zEp rfl rfl S.p2.p1 (by omega) (by omega) ?_
   clear S F
   intro v h S
   rw[er1]at S
   obtain⟨Ap,cp,rfl⟩:=S.sl
   refine Wb e24 ?_
   refine hJ' _ _ ?_ ?_
   ·refine Wh e1 e2 e16 e17 e18 e8 e23 ?_
    exact⟨j+1,rfl,by omega,Ap,Au,cp,cu,rfl,rfl,S⟩
   ·refine Wb e24 ?_
    omega
  ·obtain rfl:j=x.count.toNat:=by omega
   refine Wb e18 ?_
   refine hJ _ _ ?_ ?_
   ·refine Wf e1 e2 e16 e17 hA ?_
    exact⟨i+1,rfl,by omega,Ap,Au,cp,cu,by rw[e6,hs2];rfl,by rw[e5,hs2];rfl,by rw[hs1,hs2];exact S.p2.tl⟩
   ·refine Wb p18 ?_
    omega
 obtain rfl:i=o.ls.length:=by omega
 rw[C9]at S e6 e5
 clear hJ
 ((try clear F);have F:=S.fx)
 have hpl:=(M7 o.ls ok.count).1
 have hul:=((M7 o.ls ok.count).2.2 num).1
 refine Wf e2 F @Odr.enc.eq_1 @n8.eq_1 @n8.eq_2 ?_
 (revert S;(try clear F);refine AL fun t h S F=> ?_)
 obtain⟨n,hn⟩:∃n,(m7 o.ls).length=n:=⟨_,rfl⟩
 rw[hn]at e5 e6 S hul
 have hnn:n≤200∧0<n:=by
  have:=O7 hlk
  omega
 refine Wa ?_
 refine lI (fun ρ' h'=>ρ' 5= .slice Au n cu∧ρ' 6= .slice Ap n cp∧ρ' 53= .slice (some ⟨t,0,none⟩) 3 3∧ρ' 54= .int .i64 3∧∃r:Nat,ρ' 55= .int .i64 r∧r≤3∧
  St h0 h' (d9 t [.int .i64 o.disc,.int .i64 (-1),.int .i64 o.tax,.int .i64 1,.int .i64 o.ship,.int .i64 1] 211::i4 i6 1 2 (.slice Ap n cp) (m7 o.ls)::i4 Unt.enc 4 97 (.slice Au n cu) (U8 o num r)::d9 g o.enc 86::l)) (fun ρ' _=>3-(iv (ρ' 55)).toNat) ?_ ?_
 ·refine Wc e5 e6 ?_
  exact⟨0,rfl,by omega,S⟩
 clear S F e1 e2 e16 e17 e18 e6 e5
 rintro ρ h J hJ ⟨e5,e6,e53,e54,r,e55,hr,S⟩
 refine Wc e54 e55 ?_
 refine cD (fun hlt=> ?_) (fun hlt=> ?_)
 case refine_2=>
  obtain rfl:r=3:=by omega
  refine Wb e5 ?_
  exact hK _ _ (S.p2.d1.d1.d1)
 have hr3:r<3:=by omega
 have hps:rdN h t (r*2) 2=some [.int .i64 (a2M o r),.int .i64 (b0v r)]:=by
  rw[M3 S (by simp only[l_f,l_g];omega)]
  match r,hr3 with
  |0,_=>rfl
  |1,_=>rfl
  |2,_=>rfl
 have hop:=ok.okp r
 have hask:=ok.ask hop
 obtain⟨hs1,hs2,hs3⟩:=ok.sh r
 have hrl:=a1Z ok num r
 have hrb:=a1Y ok num r
 have hsucc:U8 o num (r+1)=a3H (b0v r) (shF (a2M o r).toNat (m7 o.ls)) (U8 o num r):=rfl
 have hsg:=a7R r
 have hpi:=a5J (a2M o r).toNat (m7 o.ls)
 rw[hn]at hs1 hrl
 generalize shF (a2M o r).toNat (m7 o.ls)=sh at*
 generalize U8 o num r=U at*
 generalize a2M o r=su at*
 generalize b0v r=sg at*
 refine Wd e53 e55 hps ?_
 (revert S;(try clear F);refine AL fun p h S F=> ?_)
 refine Wb F ?_
 (revert S;(try clear F);refine ST fun h S F=> ?_)
 refine Wc F e6 ?_
 have hsh:=b2W (c:=cp) (A:=Ap) su (m7 o.ls) (fun h' S=>S.p2.arr zEl) (by omega) S
 rw[hn]at hsh
 refine cI hsh ?_
 clear S F hsh hps
 rintro _ h (⟨hx,_⟩|⟨_,s,out,rfl,hI,hlo,S⟩)
 ·exact(hx hask).elim
 have:=hI.unique hpi
 subst this
 clear hI hpi
 obtain⟨As,cs,rfl⟩:=S.sl
 rw[hs1]at S⊢
 obtain⟨bs,rfl⟩:=S.ownAt (by omega)
 obtain⟨bu,rfl⟩:=S.p4.ownAt (by omega)
 have hXl:(a3H sg out U).length=U.length:=b1e (by omega)
 refine Wa ?_
 refine lI (fun ρ' h'=>ρ' 5= .slice (some ⟨bu,0,none⟩) n cu∧ρ' 6=ρ 6∧ρ' 53=ρ 53∧ρ' 54=ρ 54∧ρ' 55=ρ 55∧ρ' 10= .pointer (some ⟨p,0,none⟩)∧ρ' 66= .slice (some ⟨bs,0,none⟩) n cs∧ρ' 67= .int .i64 n∧∃k:Nat,ρ' 68= .int .i64 k∧k≤n∧
  St h0 h' (i4 Unt.enc 4 97 (.slice (some ⟨bu,0,none⟩) n cu) ((a3H sg out U).take k++U.drop k)::i4 i6 1 2 (.slice (some ⟨bs,0,none⟩) n cs) out::d9 p [.int .i64 su,.int .i64 sg] 211::
   d9 t [.int .i64 o.disc,.int .i64 (-1),.int .i64 o.tax,.int .i64 1,.int .i64 o.ship,.int .i64 1] 211::i4 i6 1 2 (.slice Ap n cp) (m7 o.ls)::d9 g o.enc 86::l)) (fun ρ' _=>n-(iv (ρ' 68)).toNat) ?_ ?_
 ·refine Wb e5 ?_
  refine⟨0,rfl,by omega,?_⟩
  have:=S.p4
  simpa using this
 have p5:=e5
 have p6:=e6
 have p53:=e53
 have p54:=e54
 have p55:=e55
 clear S e5 e6 e53 e54 e55
 rintro ρ' h J' hJ' ⟨e5,e6,e53,e54,e55,e10,e66,e67,k,e68,hk,S⟩
 refine Wc e67 e68 ?_
 refine cD (fun hlt2=> ?_) (fun hlt2=> ?_)
 ·have hkn:k<n:=by omega
  have hml:=b0q (a3H sg out U) U hXl k
  have hrs:=F8 S.p1 (i:=k) (l_r (by omega))
  have hru:=u2 Unt.enc_len S (i:=k) (j:=3) (by omega) (by omega)
  rw[b0p _ _ hXl (by omega)]at hru
  have hrg:=m8 (off:=1) S.p2
  simp only[l_p,l_o]at hrg
  have hsb:=hs3 _ (l_v (l:=out) (n:=k) (by omega))
  have hub:=hrb _ (l_v (l:=U) (n:=k) (by omega))
  have hXk:(a3H sg out U)[k]'(by omega)={(U[k]'(by omega))with share:=(U[k]'(by omega)).share+sg*out[k]'(by omega)}:=by simp only[a3H,List.getElem_zipWith]
  have hset:=b5A (a3H sg out U) U hXl (k:=k) (by omega)
  rw[hXk]at hset
  have hmg:=b0p (a3H sg out U) U hXl (k:=k) (by omega)
  generalize out[k]'(by omega)=s at*
  generalize hu:U[k]'(by omega)=u at*
  simp only[Unt.enc,l_p,l_o]at hru
  have w1:IntKind.i64.wrap (sg*s)=sg*s:=by
   rcases hsg with rfl|rfl<;>exact u5 (by omega) (by omega)
  have w2:IntKind.i64.wrap (u.share+sg*s)=u.share+sg*s:=by
   rcases hsg with rfl|rfl<;>exact u5 (by omega) (by omega)
  refine Wd e66 e68 hrs ?_
  refine dE ?_
  refine Wi e5 e68 e10 hru hrg hrs w1 w2 ?_
  refine G8 Unt.enc_len (i:=k) (j:=3) (x:={u with share:=u.share+sg*s}) S (by omega) (by omega) (x9 4) rfl rfl (by rw[hmg];rfl) ?_
  clear S hru hrg hrs
  intro h S
  rw[hset]at S
  refine Wb e68 ?_
  refine hJ' _ _ ?_ ?_
  ·refine Wi e5 e6 e53 e54 e55 e10 e66 e67 ?_
   exact⟨k+1,rfl,by omega,S⟩
  ·refine Wb e68 ?_
   omega
 ·obtain rfl:k=n:=by omega
  rw[a2E (by omega),List.drop_of_length_le (by omega),D9,←hsucc]at S
  refine Wc e55 p55 ?_
  refine hJ _ _ ?_ ?_
  ·refine Wi e5 p5 e6 p6 e53 p53 e54 p54 ?_
   exact⟨r+1,rfl,by omega,S.d1.d1.p2.p2⟩
  ·refine Wb p55 ?_
   omega
end
end
def rdV(n:Nat)(bs:List UInt8)(bad:Bool):Int:=if bad=true∨bs.length<n then 0 else num (bs.take n)
def rdB(n:Nat)(bs:List UInt8)(bad:Bool):List UInt8:=if bad=true∨bs.length<n then []else bs.drop n
def rdX(n:Nat)(bs:List UInt8)(bad:Bool):Bool:=bad||decide (bs.length<n)
theorem b3O(n:Nat)(bs:List UInt8)(bad:Bool):0≤rdV n bs bad∧rdV n bs bad<256^n:=by
 unfold rdV
 split
 ·exact⟨Int.le_refl _,Int.pow_pos (by decide)⟩
 ·rename_i hb
  have h1:=b9M (bs.take n)
  have h2:(bs.take n).length=n:=by simp only[not_or]at hb;simp;omega
  rw[h2]at h1
  exact⟨a7D _,h1⟩
def stp(n:Nat)(q:List UInt8×Bool):List UInt8×Bool:=(rdB n q.1 q.2,rdX n q.1 q.2)
def vl(n:Nat)(q:List UInt8×Bool):Int:=rdV n q.1 q.2
def q1(q:List UInt8×Bool):=stp 2 q
def q2(q:List UInt8×Bool):=stp 1 (q1 q)
def q3(q:List UInt8×Bool):=stp 2 (q2 q)
def q4(q:List UInt8×Bool):=stp 2 (q3 q)
def q5(q:List UInt8×Bool):=stp 2 (q4 q)
def q6(q:List UInt8×Bool):=stp 2 (q5 q)
def q7(q:List UInt8×Bool):=stp 2 (q6 q)
def q8(q:List UInt8×Bool):=stp 1 (q7 q)
def q9(q:List UInt8×Bool):=stp 2 (q8 q)
def q10(q:List UInt8×Bool):=stp 1 (q9 q)
def q11(q:List UInt8×Bool):=stp 2 (q10 q)
def q12(q:List UInt8×Bool):=stp 1 (q11 q)
def q13(q:List UInt8×Bool):=stp 2 (q12 q)
def q14(q:List UInt8×Bool):=stp 1 (q13 q)
def Pol.fits(p:Pol):Prop:=(0≤p.w∧p.w<65536)∧(0≤p.f0∧p.f0<65536)∧(0≤p.f1∧p.f1<65536)∧(0≤p.f2∧p.f2<65536)∧(0≤p.f3∧p.f3<65536)∧(0≤p.s0∧p.s0<65536)∧(0≤p.t0∧p.t0<256)∧(0≤p.s1∧p.s1<65536)∧(0≤p.t1∧p.t1<256)∧(0≤p.s2∧p.s2<65536)∧(0≤p.t2∧p.t2<256)∧(0≤p.s3∧p.s3<65536)∧(0≤p.t3∧p.t3<256)
theorem b9n(l:List UInt8)(n:Nat)(h:l.length=n):le n (num l)=l:=by subst h;exact b9m l
theorem a0q{α:Type}{enc:α→List Value}{sz:Nat}{h:c9}{A:Option Addr}{xs:List α}(ha:Arr enc sz h A xs):A=none→xs=[]:=by
 rintro rfl
 cases xs with
 |nil=>rfl
 |cons x xs=>obtain⟨b,off,hA,_⟩:=ha 0 (by simp);cases hA
section
set_option maxHeartbeats 4000000
structure KU where
 place:Int
 sku:Int
 recv:Bool
 grad:Bool
def KU.enc(x:KU):List Value:=[.int .i64 x.place,.int .i64 x.sku,.bool x.recv,.bool x.grad]
theorem KU.enc_len(x:KU):x.enc.length=4:=rfl
theorem KU.enc_plain(x:KU):pC x.enc=true:=rfl
def t6(k:Nat)(K:List KU):HP:=exA fun s=>a2S (d9 k [s] 164) (i4 KU.enc 4 166 s K)
def i5(K:List KU)(n:Int):Int:=if 0≤n then((K[n.toNat]?).map KU.place).getD (-1)else-1
def a2P(K:List KU)(n:Int):Bool×Bool:=if 0≤n then((K[n.toNat]?).map fun u=>(u.recv,u.grad)).getD (false,false)else(false,false)
def U5(sk at_:List Int):List KU:=List.zipWith (fun s p=>⟨p,s,false,false⟩) sk at_
def okAt(at_:List Int):Prop:=∀p∈at_,0≤p∧p<9
section
variable{h0 h:c9}{l:List HP}{k:Nat}{K:List KU}
theorem St.stk:St h0 h (t6 k K::l)↔∃s,St h0 h (d9 k [s] 164::i4 KU.enc 4 166 s K::l):=by
 rw[t6,St.ex]
 exact exists_congr fun s=>St.star
theorem a3R(n:Int)(S:St h0 h (t6 k K::l)):d8 Tryz.prog 115 [.pointer (some ⟨k,0,none⟩),.int .i64 n] h fun v h'=>v= .bool (dcd (0≤n∧n<K.length))∧h'=h:=by
 obtain⟨s,S⟩:=St.stk.1 S
 obtain⟨A,c,rfl⟩:=S.p1.sl
 ((try clear F);have F:=S.fx)
 by_cases h1:0≤n
 ·by_cases h2:n<K.length
  ·refine EN i115.eq_1 fun K hK=> ?_
   refine Wd F h1 h2 ?_
   exact hK _ _ ⟨by rw[dT ⟨h1,h2⟩],rfl⟩
  ·refine EN i115.eq_1 fun K hK=> ?_
   refine Wd F h1 h2 ?_
   exact hK _ _ ⟨by rw[dF fun h=>h2 h.2],rfl⟩
 ·refine EN i115.eq_1 fun K hK=> ?_
  refine Wc F h1 ?_
  exact hK _ _ ⟨by rw[dF fun h=>h1 h.1],rfl⟩
theorem a2W(n:Int)(S:St h0 h (t6 k K::l)):d8 Tryz.prog 69 [.pointer (some ⟨k,0,none⟩),.int .i64 n] h fun v h'=>v= .int .i64 (i5 K n)∧h'=h:=by
 by_cases h1:0≤n∧n<K.length
 ·obtain⟨i,rfl⟩:=l_u h1.1
  have hi:i<K.length:=by omega
  refine EN i69.eq_1 fun K hK=>Wa ?_
  refine cI (a3R _ S) ?_
  rintro _ _ ⟨rfl,rfl⟩
  rw[dT h1]
  obtain⟨s,S⟩:=St.stk.1 S
  obtain⟨A,c,rfl⟩:=S.p1.sl
  obtain⟨b,rfl⟩:=S.p1.ownAt (by omega)
  have hp:=u2 KU.enc_len S.p1 (i:=i) (j:=0) hi (by omega)
  simp only[KU.enc,l_o,H8]at hp
  ((try clear F);have F:=S.fx)
  refine Wc F hp ?_
  refine hK _ _ ⟨?_,rfl⟩
  rw[i5,if_pos h1.1,K0,l_r hi]
  rfl
 ·refine EN i69.eq_1 fun K hK=>Wa ?_
  refine cI (a3R _ S) ?_
  rintro _ _ ⟨rfl,rfl⟩
  rw[dF h1]
  refine Wa ?_
  refine hK _ _ ⟨?_,rfl⟩
  rw[i5]
  split
  ·rw[Y1 (by omega)];rfl
  ·rfl
theorem b7V(n:Int)(S:St h0 h (t6 k K::l)):d8 Tryz.prog 75 [.pointer (some ⟨k,0,none⟩),.int .i64 n] h fun v h'=>v= .tuple #[.bool (a2P K n).1,.bool (a2P K n).2]∧h'=h:=by
 by_cases h1:0≤n∧n<K.length
 ·obtain⟨i,rfl⟩:=l_u h1.1
  have hi:i<K.length:=by omega
  refine EN i75.eq_1 fun K hK=>Wa ?_
  refine cI (a3R _ S) ?_
  rintro _ _ ⟨rfl,rfl⟩
  rw[dT h1]
  obtain⟨s,S⟩:=St.stk.1 S
  obtain⟨A,c,rfl⟩:=S.p1.sl
  obtain⟨b,rfl⟩:=S.p1.ownAt (by omega)
  have hp:=u2 KU.enc_len S.p1 (i:=i) (j:=2) hi (by omega)
  have hq:=u2 KU.enc_len S.p1 (i:=i) (j:=3) hi (by omega)
  simp only[KU.enc,l_o,l_p]at hp hq
  ((try clear F);have F:=S.fx)
  refine Wa ?_
  refine dE ?_
  refine Wd F hp hq ?_
  refine hK _ _ ⟨?_,rfl⟩
  rw[a2P,if_pos h1.1,K0,l_r hi]
  rfl
 ·refine EN i75.eq_1 fun K hK=>Wa ?_
  refine cI (a3R _ S) ?_
  rintro _ _ ⟨rfl,rfl⟩
  rw[dF h1]
  refine Wa ?_
  refine hK _ _ ⟨?_,rfl⟩
  rw[a2P]
  split
  ·rw[Y1 (by omega)];rfl
  ·rfl
theorem b2R{A:Option Addr}{n c:Nat}{xs:List KU}(S:St h0 h l)(ha:Arr KU.enc 4 h A xs)(hn:n=xs.length)(hl:xs.length<1000000000):
  d8 Tryz.prog 108 [.slice A n c] h fun v h'=>St h0 h' (i4 KU.enc 4 166 v xs::l):=
 (Q0 (T:=166) (sz:=4) (bytes:=24) i108.2 KU.enc_len (by omega) KU.enc_plain rfl ha hn (a0q ha) (by omega) (by omega)).mono fun v h' ⟨ho,hf,_⟩=>S.ownNew hf ho
theorem a8D(S:St h0 h (t6 k K::l))(hl:K.length<1000000):d8 Tryz.prog 54 [.pointer (some ⟨k,0,none⟩)] h fun v h'=>∃p,v= .pointer (some ⟨p,0,none⟩)∧St h0 h' (t6 p K::t6 k K::l):=by
 obtain⟨s,S⟩:=St.stk.1 S
 obtain⟨A,c,rfl⟩:=S.p1.sl
 ((try clear F);have F:=S.fx)
 refine EN i54.eq_1 fun K hK=> ?_
 refine Wb F ?_
 refine cI (b2R S (S.p1.arr KU.enc_len) rfl (by omega)) ?_
 clear S F
 intro v h S
 obtain⟨B,d,rfl⟩:=S.sl
 refine Wa ?_
 (revert S;(try clear F);refine AL fun p h S F=> ?_)
 refine Wa ?_
 exact hK _ _ ⟨p,rfl,St.stk.2 ⟨_,(St.stk.2 ⟨_,S.p2.p3.p1⟩).p1.p2.p1⟩⟩
theorem c1q{A B:Option Addr}{c d:Nat}{sk at_:List Int}(S:St h0 h l)(ha:∀h',St h0 h' l→Arr i6 1 h' A sk)(hb:∀h',St h0 h' l→Arr i6 1 h' B at_)(l1:sk.length<1000000)(l2:at_.length<1000000):
  d8 Tryz.prog 38 [.slice A sk.length c,.slice B at_.length d] h fun v h'=>(¬(sk.length=at_.length∧sk.length≤200∧okAt at_)∧v= .tuple #[.pointer none,.int .i64 1]∧St h0 h' l)∨
   ((sk.length=at_.length∧sk.length≤200∧okAt at_)∧∃k,v= .tuple #[.pointer (some ⟨k,0,none⟩),.int .i64 0]∧St h0 h' (t6 k (U5 sk at_)::l)):=by
 by_cases h1:(sk.length:Int)=at_.length
 case neg=>
  refine EN i38.eq_1 fun K hK=> ?_
  refine Wa ?_
  exact hK _ _ (.inl ⟨fun h=>h1 (by omega),rfl,S⟩)
 by_cases h2:200<(sk.length:Int)
 ·refine EN i38.eq_1 fun K hK=> ?_
  refine Wa ?_
  exact hK _ _ (.inl ⟨fun h=>by omega,rfl,S⟩)
 refine EN i38.eq_1 fun K hK=> ?_
 refine Wa ?_
 (revert S;(try clear F);refine AL fun k h S F=> ?_)
 have S:St h0 h (i4 KU.enc 4 166 (.slice none 0 0) []::_):=S.nilS
 refine Wa ?_
 refine lI (fun ρ h'=>ρ 0= .slice A sk.length c∧ρ 6= .pointer (some ⟨k,0,none⟩)∧ρ 21= .slice B at_.length d∧ρ 22= .int .i64 at_.length∧∃i:Nat,ρ 23= .int .i64 i∧i≤at_.length∧okAt (at_.take i)∧∃(E:Option Addr) (e:Nat),
  St h0 h' (i4 KU.enc 4 166 (.slice E (U5 (sk.take i) (at_.take i)).length e) (U5 (sk.take i) (at_.take i))::d9 k [.slice E (U5 (sk.take i) (at_.take i)).length e] 164::l)) (fun ρ _=>at_.length-(iv (ρ 23)).toNat) ?_ ?_
 ·refine Wa ?_
  exact⟨0,rfl,by omega,by simp[okAt],none,0,S⟩
 clear S F
 rintro ρ h J hJ ⟨e0,e6,e21,e22,i,e23,hi,hok,E,e,S⟩
 refine Wc e22 e23 ?_
 refine cD (fun hlt=> ?_) (fun hlt=> ?_)
 ·have hil:i<at_.length:=by omega
  have hil2:i<sk.length:=by omega
  obtain⟨b1,o1,rfl,q1⟩:=(hb _ S.tl.tl).at hil
  obtain⟨b2,o2,rfl,q2⟩:=(ha _ S.tl.tl).at hil2
  have q1:=rP0 q1 (by omega)
  have q2:=rP0 q2 (by omega)
  simp only[i6,l_o]at q1 q2
  have hmem:=l_v hil
  have hll:(U5 (sk.take i) (at_.take i)).length=i:=by
   rw[U5,List.length_zipWith,x4,x4];omega
  have hs1:U5 (sk.take (i+1)) (at_.take (i+1))=U5 (sk.take i) (at_.take i)++ [⟨at_[i],sk[i],false,false⟩]:=by
   rw[l_t hil,l_t hil2,U5,List.zipWith_append (by rw[x4,x4];omega)]
   rfl
  have htk:(0≤at_[i]∧at_[i]<9)→okAt (at_.take (i+1)):=fun hx p hp=>by
   rw[l_t hil]at hp
   rcases List.mem_append.1 hp with hp|hp
   ·exact hok p hp
   ·rw[U1]at hp;rw[hp];exact hx
  have hbad:¬(0≤at_[i]∧at_[i]<9)→¬(sk.length=at_.length∧sk.length≤200∧okAt at_):=fun hn h=>hn (h.2.2 _ hmem)
  have hq2:∀{h':c9}{L:List HP},St h0 h' (L++l)→rd1 h' (.pointer (some ⟨b2,o2+i*1,none⟩))=some (.int .i64 sk[i]):=fun S'=>by
   obtain⟨b3,o3,hA,q3⟩:=(ha _ S'.dropL).at hil2
   cases hA
   have q3:=rP0 q3 (by omega)
   simpa only[i6,l_o]using q3
  generalize at_[i]=x at*
  generalize sk[i]=y at*
  by_cases c1:x<0
  ·refine We e21 e23 q1 c1 ?_
   exact hK _ _ (.inl ⟨hbad (by omega),rfl,S.tl.tl⟩)
  by_cases c2:9≤x
  ·refine Wf e21 e23 q1 c1 c2 ?_
   exact hK _ _ (.inl ⟨hbad (by omega),rfl,S.tl.tl⟩)
  have hg0:=m8 (off:=0) S.p1
  simp only[l_o]at hg0
  generalize U5 (sk.take i) (at_.take i)=W at*
  have hI:(fun h'=>rd1 h' (.pointer (some ⟨k,0,none⟩))=some (.slice E W.length e)∧rd1 h' (.pointer (some ⟨b2,o2+i*1,none⟩))=some (.int .i64 y)) h:=⟨hg0,hq2 (L:=[_,_]) S⟩
  have rx:∀K t,j8 (fun h'=>rd1 h' (.pointer (some ⟨k,0,none⟩))=some (.slice E W.length e)∧rd1 h' (.pointer (some ⟨b2,o2+i*1,none⟩))=some (.int .i64 y)) (fun h'=>rd1 h' (.pointer (some ⟨k,0,none⟩))) K t=K (.slice E W.length e):=fun K t=>rI (fun h' hh=>hh.1) h hI
  have ry:∀K t,j8 (fun h'=>rd1 h' (.pointer (some ⟨k,0,none⟩))=some (.slice E W.length e)∧rd1 h' (.pointer (some ⟨b2,o2+i*1,none⟩))=some (.int .i64 y)) (fun h'=>rd1 h' (.pointer (some ⟨b2,o2+i*1,none⟩))) K t=K (.int .i64 y):=fun K t=>rI (fun h' hh=>hh.2) h hI
  simp only[m9]at hI rx ry hq2
  refine Wf e21 e23 q1 c1 c2 ?_
  refine dI (fun h'=>rd1 h' (.pointer (some ⟨k,0,none⟩))=some (.slice E W.length e)∧rd1 h' (.pointer (some ⟨b2,o2+i,none⟩))=some (.int .i64 y)) hI ?_
  refine Wf e0 e6 rx ry @m9 ?_
  (revert S;(try clear F);refine AL fun q h S F=> ?_)
  refine⟨⟨m8 (off:=0) S.p2,hq2 (L:=[_,_,_]) S⟩,?_⟩
  refine Wa ?_
  refine tA1 (bytes:=24) (x:=(⟨x,y,false,false⟩:KU)) KU.enc_len (by omega) KU.enc_plain rfl rfl S (by omega) (by omega) ?_
  clear S F
  intro v h S
  rw[←hs1]at S
  obtain⟨E',e',rfl⟩:=S.sl
  refine Wa ?_
  refine tS S.p1 (by rfl) (by rfl) (l_a rfl) ?_
  clear S
  intro h S
  replace S:=S.nm
  refine Wb e23 ?_
  refine hJ _ _ ?_ ?_
  ·refine We e0 e6 e21 e22 ?_
   exact⟨i+1,rfl,by omega,htk (by omega),E',e',S.p1⟩
  ·refine Wb e23 ?_
   omega
 obtain rfl:i=at_.length:=by omega
 have hx:sk.take at_.length=sk:=by rw[←(show sk.length=at_.length by omega),C9]
 rw[hx,C9]at S
 rw[C9]at hok
 refine Wb e6 ?_
 exact hK _ _ (.inr ⟨⟨by omega,by omega,hok⟩,k,rfl,St.stk.2 ⟨_,S.p1⟩⟩)
end
end
section
set_option maxHeartbeats 16000000
end
section
set_option maxHeartbeats 8000000
theorem b8z{k:Int}:∀{os:List Odr},(∀o∈os,J6 k o)→∀o∈os,H7 o.ls≤C2 os
 | [],_,o,ho=>by cases ho
 |x::os,h,o,ho=>by
  have h1:=O7 (h x (by simp)).2.1
  have h2:=W6 (os:=os) fun y hy=>h y (by simp[hy])
  have h3:=b8z (os:=os) fun y hy=>h y (by simp[hy])
  simp only[C2,G7,K1]at h2 h3⊢
  rcases List.mem_cons.1 ho with rfl|ho
  ·omega
  ·have:=h3 o ho;omega
theorem K7.okO{C:Cfg}(h:K7 C):∀o∈C.os,OkO o:=fun o ho=>by
 obtain⟨_,h1,h2,h3,h4,h5⟩:=h
 obtain⟨⟨_,⟨n0,n1⟩,d,t,s⟩,hl,hd⟩:=h3 o ho
 have hc:=b8z h3 o ho
 have hs:=a0l h4.1
 have ht:a6g C=C2 C.os+E8 C.ss:=rfl
 exact⟨⟨_,hl⟩,n0,n1,by omega,d,t,s,hd⟩
theorem a0W{o:Odr}(h:OkO o)(i:Int):((U7 o i).length:Int)=H7 o.ls:=by
 rw[U7,a1Z h,(M7 o.ls h.count).1]
theorem a0k:∀{os:List Odr} (i:Nat),(∀o∈os,OkO o)→((E1 i os).length:Int)=C2 os
 | [],i,_=>rfl
 |x::os,i,h=>by
  have h1:=a0W (h x (by simp)) i
  have h2:=a0k (os:=os) (i+1) fun y hy=>h y (by simp[hy])
  simp only[E1,l_m,C2,G7,K1]at h2⊢
  omega
theorem a7J{os:List Odr}{i:Nat}(hi:i<os.length):E1 0 (os.take (i+1))=E1 0 (os.take i)++U7 os[i] i:=by
 rw[l_t hi,b7a,x4,Nat.min_eq_left (by omega)]
 simp[E1]
theorem a9K{ss:List Sup}{i:Nat}(hi:i<ss.length):(ss.take (i+1)).flatMap U6=(ss.take i).flatMap U6++U6 ss[i]:=by
 rw[l_t hi,a1p]
 simp
theorem a4X:∀{ss:List Sup},(∀s∈ss,a6a s)→((ss.flatMap U6).length:Int)=E8 ss
 | [],_=>rfl
 |x::ss,h=>by
  have h1:=(h x (by simp)).2.2
  have h2:=a4X (ss:=ss) fun y hy=>h y (by simp[hy])
  simp only[X9,l_m,U6,G4,E8,G7,K1]at h2⊢
  omega
theorem a8c{k:Int}{os:List Odr}(h:∀o∈os,J6 k o)(i:Nat):C2 (os.take i)≤C2 os:=by
 have h1:=W6 (os:=os.drop i) fun o ho=>h o (List.mem_of_mem_drop ho)
 have:C2 os=C2 (os.take i)+C2 (os.drop i):=by
  conv=>lhs;rw[←G0 i os]
  rw[C2,L7,a2m];rfl
 omega
theorem a8d{ss:List Sup}(h:∀s∈ss,a6a s)(i:Nat):E8 (ss.take i)≤E8 ss:=by
 have h1:=a0l (ss:=ss.drop i) fun o ho=>h o (List.mem_of_mem_drop ho)
 have:E8 ss=E8 (ss.take i)+E8 (ss.drop i):=by
  conv=>lhs;rw[←G0 i ss]
  rw[E8,L7,a2m];rfl
 omega
section
variable{h0 h:c9}{l:List HP}
theorem b6d(C:Cfg)(r:∀h',St h0 h' l→C.rd h')(w:C.wf)(l1:C.os.length<1000000)(l2:C.ss.length<1000000)(l3:C.ps.length<1000000)(l4:∀o∈C.os,o.ls.length<1000000)(S:St h0 h l):
  d8 Tryz.prog 37 [.agg C.enc.toArray] h fun v h'=>(¬K7 C∧v= .tuple #[.slice none 0 0,.int .i64 1]∧St h0 h' l)∨(K7 C∧∃s,v= .tuple #[s,.int .i64 0]∧St h0 h' (i4 Unt.enc 4 97 s (l9 C)::l)):=by
 refine EN i37.eq_1 fun K hK=>Wa ?_
 (revert S;(try clear F);refine AL fun g h S F=> ?_)
 refine Wc F @Cfg.enc.eq_1 ?_
 have hR:=b6c C (r h S.tl) w l1 l2 l3 l4
 rw[show [Value.slice C.A1 C.os.length C.c1,Value.slice C.A2 C.ss.length C.c2,Value.slice C.A3 C.ps.length C.c3]=C.enc from rfl]
 refine cI hR ?_
 rintro _ h ⟨rfl,hf⟩
 have S:=S.frame hf
 by_cases hok:K7 C
 case neg=>
  rw[dF hok]
  refine Wa ?_
  exact hK _ _ (.inl ⟨hok,rfl,S.tl⟩)
 rw[dT hok]
 obtain⟨_,k1,k2,k3,k4,k5⟩:=id hok
 have hOk:=hok.okO
 have ht:a6g C=C2 C.os+E8 C.ss:=rfl
 have hob:=W6 k3
 have hsb:=a0l k4.1
 ((try clear F);have F:=S.fx)
 have S:St h0 h (i4 Unt.enc 4 97 (.slice none 0 0) []::_):=S.nilS
 refine Wc F @Cfg.enc.eq_1 ?_
 refine lI (fun ρ h'=>ρ 1= .pointer (some ⟨g,0,none⟩)∧ρ 13= .slice C.A1 C.os.length C.c1∧ρ 14= .int .i64 C.os.length∧∃i:Nat,ρ 15= .int .i64 i∧i≤C.os.length∧∃(Au:Option Addr) (cu:Nat),ρ 4= .slice Au (E1 0 (C.os.take i)).length cu∧
  St h0 h' (i4 Unt.enc 4 97 (.slice Au (E1 0 (C.os.take i)).length cu) (E1 0 (C.os.take i))::d9 g C.enc 26::l)) (fun ρ _=>C.os.length-(iv (ρ 15)).toNat) ?_ ?_
 ·refine Wa ?_
  exact⟨0,rfl,by omega,none,0,rfl,S⟩
 clear S F hR
 rintro ρ h J hJ ⟨e1,e13,e14,i,e15,hi,Au,cu,e4,S⟩
 refine Wc e14 e15 ?_
 refine cD (fun hlt=> ?_) (fun hlt=> ?_)
 ·have hil:i<C.os.length:=by omega
  obtain⟨b,off,hA,hr1⟩:=(r _ S.tl.tl).os.at hil
  have hmem:=l_v hil
  have hs1:=a7J hil
  have hrl:=fun {h'} (S:St h0 h' l)=>(r _ S).ls _ hmem
  have hO:=hOk _ hmem
  have hul:=a0W hO i
  have hlen:=a0k (os:=C.os.take i) 0 fun o ho=>hOk o (a1O ho)
  have hle:=a8c k3 i
  generalize C.os[i]=o at*
  generalize E1 0 (C.os.take i)=U at*
  have hcn:=hO.cnt
  have ho8:=hO.n1
  refine We e13 e15 hA hr1 ?_
  (revert S;(try clear F);refine AL fun q h S F=> ?_)
  refine Wc F @Odr.enc.eq_1 ?_
  (revert S;(try clear F);refine ST fun h S F=> ?_)
  refine Wc e4 F ?_
  refine cI (c0P o i hO (fun h' S=>hrl S.tl.tl.tl) S) ?_
  clear S F hr1
  intro v h S
  obtain⟨Av,cv,rfl⟩:=S.sl
  refine Wa ?_
  refine tAp (bytes:=32) (ys:=U7 o i) Unt.enc_len (by omega) Unt.enc_plain rfl S.p2 rfl (E9 Unt.enc_len (S.arr Unt.enc_len) rfl) (by omega) (by omega) ?_
  clear S
  intro v h S
  rw[←hs1]at S
  obtain⟨Au,cu,rfl⟩:=S.sl
  refine Wb e15 ?_
  refine hJ _ _ ?_ ?_
  ·refine We e1 e13 e14 hA ?_
   exact⟨i+1,rfl,by omega,Au,cu,rfl,S.d1.d1⟩
  ·refine Wb e15 ?_
   omega
 obtain rfl:i=C.os.length:=by omega
 rw[C9]at e4 S
 have hlen:=a0k (os:=C.os) 0 hOk
 clear hJ
 ((try clear F);have F:=S.fx)
 refine Wd e1 F @Cfg.enc.eq_1 ?_
 refine lI (fun ρ h'=>ρ 27= .slice C.A2 C.ss.length C.c2∧ρ 28= .int .i64 C.ss.length∧∃i:Nat,ρ 29= .int .i64 i∧i≤C.ss.length∧∃(Au:Option Addr) (cu:Nat),ρ 4= .slice Au (E1 0 C.os++(C.ss.take i).flatMap U6).length cu∧
  St h0 h' (i4 Unt.enc 4 97 (.slice Au (E1 0 C.os++(C.ss.take i).flatMap U6).length cu) (E1 0 C.os++(C.ss.take i).flatMap U6)::l)) (fun ρ _=>C.ss.length-(iv (ρ 29)).toNat) ?_ ?_
 ·refine Wa ?_
  exact⟨0,rfl,by omega,Au,cu,by simp[e4],by simpa using S.d1⟩
 clear S F e1 e13 e14 e15 e4
 rintro ρ h J hJ ⟨e27,e28,i,e29,hi,Au,cu,e4,S⟩
 refine Wc e28 e29 ?_
 refine cD (fun hlt=> ?_) (fun hlt=> ?_)
 ·have hil:i<C.ss.length:=by omega
  obtain⟨b,off,hA,hr1⟩:=(r _ S.tl).ss.at hil
  have hs1:E1 0 C.os++(C.ss.take (i+1)).flatMap U6=(E1 0 C.os++(C.ss.take i).flatMap U6)++U6 C.ss[i]:=by rw[a9K hil,l_q]
  have hx:=k4.1 _ (l_v hil)
  have hl2:=a4X (ss:=C.ss.take i) fun s hs=>k4.1 s (a1O hs)
  have hl3:=a8d k4.1 (i+1)
  rw[a2V hil]at hl3
  generalize C.ss[i]=x at*
  obtain⟨_,_,hx0,hx1⟩:=hx
  have hPl:((E1 0 C.os++(C.ss.take i).flatMap U6).length:Int)+x.count≤200:=by rw[l_m];omega
  generalize E1 0 C.os++(C.ss.take i).flatMap U6=P at*
  refine We e27 e29 hA hr1 ?_
  (revert S;(try clear F);refine AL fun q h S F=> ?_)
  refine Wc F @Sup.enc.eq_1 ?_
  (revert S;(try clear F);refine ST fun h S F=> ?_)
  refine Wb F ?_
  refine lI (fun ρ' h'=>ρ' 27=ρ 27∧ρ' 28=ρ 28∧ρ' 29=ρ 29∧ρ' 8= .pointer (some ⟨q,0,none⟩)∧ρ' 34= .int .i64 x.count∧∃j:Nat,ρ' 35= .int .i64 j∧j≤x.count.toNat∧
   ∃(Au:Option Addr) (cu:Nat),ρ' 4= .slice Au (P.length+j) cu∧
   St h0 h' (i4 Unt.enc 4 97 (.slice Au (P.length+j) cu) (P++List.replicate j ⟨-1,x.sku,0,x.price⟩)::d9 q x.enc 119::l)) (fun ρ' _=>x.count.toNat-(iv (ρ' 35)).toNat) ?_ ?_
  ·refine Wb e4 ?_
   exact⟨0,rfl,by omega,Au,cu,rfl,by simp only[List.replicate_zero,D9,H8];exact S.p1⟩
  have p27:=e27
  have p28:=e28
  have p29:=e29
  clear S F e27 e28 e29 e4 hr1
  rintro ρ' h J' hJ' ⟨e27,e28,e29,e8,e34,j,e35,hj,Au,cu,e4,S⟩
  refine Wc e34 e35 ?_
  refine cD (fun hlt2=> ?_) (fun hlt2=> ?_)
  ·have hjl:j<x.count.toNat:=by omega
   have er2:P++List.replicate j (⟨-1,x.sku,0,x.price⟩:Unt)++ [⟨-1,x.sku,0,x.price⟩]=P++List.replicate (j+1) ⟨-1,x.sku,0,x.price⟩:=by rw[l_q,←List.replicate_succ']
   have hll:(P++List.replicate j (⟨-1,x.sku,0,x.price⟩:Unt)).length=P.length+j:=by rw[l_m,G4]
   have hll2:(P++List.replicate (j+1) (⟨-1,x.sku,0,x.price⟩:Unt)).length=P.length+(j+1):=by rw[l_m,G4]
   ((try clear F);have F:=S.fx)
   refine We e8 F @Sup.enc.eq_1 e4 ?_
   (revert S;(try clear F);refine AL fun r1 h S F=> ?_)
   refine Wa ?_
   refine tA1 (bytes:=32) (x:=(⟨-1,x.sku,0,x.price⟩:Unt)) Unt.enc_len (by omega) Unt.enc_plain rfl rfl S (by omega) (by omega) ?_
   clear S F
   intro v h S
   rw[er2]at S
   obtain⟨Au,cu,rfl⟩:=S.sl
   rw[hll2]at S⊢
   refine Wb e35 ?_
   refine hJ' _ _ ?_ ?_
   ·refine Wf e27 e28 e29 e8 e34 ?_
    exact⟨j+1,rfl,by omega,Au,cu,rfl,S⟩
   ·refine Wb e35 ?_
    omega
  ·obtain rfl:j=x.count.toNat:=by omega
   have hrp:P++List.replicate x.count.toNat (⟨-1,x.sku,0,x.price⟩:Unt)=P++U6 x:=rfl
   have hll:(P++U6 x).length=P.length+x.count.toNat:=by rw[l_m,U6,G4]
   rw[hrp]at S
   refine Wc e29 p29 ?_
   refine hJ _ _ ?_ ?_
   ·refine We e27 p27 e28 p28 ?_
    exact⟨i+1,rfl,by omega,Au,cu,by rw[hs1,hll];exact e4,by rw[hs1,hll];exact S.d1⟩
   ·refine Wb p29 ?_
    omega
 obtain rfl:i=C.ss.length:=by omega
 rw[C9]at e4 S
 refine Wb e4 ?_
 exact hK _ _ (.inr ⟨hok,_,rfl,S⟩)
end
end
end Go.Proofs.YtjagmebglhbdkaaGreat.MX
