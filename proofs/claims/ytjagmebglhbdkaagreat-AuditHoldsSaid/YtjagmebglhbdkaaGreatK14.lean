import Derived.Test.YtjagmebglhbdkaaGreatK13
import Derived.Test.YtjagmebglhbdkaaGreatK11
import Derived.Test.YtjagmebglhbdkaaGreatK08
import Derived.Test.YtjagmebglhbdkaaGreatIR
import Derived.Test.YtjagmebglhbdkaaGreatK12
namespace Go.Proofs.YtjagmebglhbdkaaGreat.MX
open Go Go.Proofs
set_option linter.unusedSimpArgs false
set_option linter.unusedVariables false
section
set_option maxHeartbeats 8000000
theorem c1B{α:Type}{enc:α→List Value}{sz:Nat}{h:c9}{A:Option Addr}{xs:List α}(ha:Arr enc sz h A xs)(k:Nat):Arr enc sz h A (xs.take k):=by
 intro i hi
 rw[x4]at hi
 obtain⟨b,off,e,hr⟩:=ha i (by omega)
 exact⟨b,off,e,by rw[List.getElem_take];exact hr⟩
def C2(os:List Odr):Int:=(os.map fun o=>H7 o.ls).sum
def E8(ss:List Sup):Int:=(ss.map Sup.count).sum
theorem b2d{os:List Odr}{i:Nat}(hi:i<os.length):C2 (os.take (i+1))=C2 (os.take i)+H7 os[i].ls:=by
 rw[l_t hi,C2,L7,a2m]
 simp[C2]
theorem a2V{ss:List Sup}{i:Nat}(hi:i<ss.length):E8 (ss.take (i+1))=E8 (ss.take i)+ss[i].count:=by
 rw[l_t hi,E8,L7,a2m]
 simp[E8]
theorem W6{k:Int}:∀{os:List Odr},(∀o∈os,J6 k o)→0≤C2 os∧C2 os≤400*os.length
 | [],_=>by simp[C2]
 |x::os,h=>by
  obtain⟨⟨_,hx,_⟩,h1,_⟩:=h x (by simp)
  have h1:=O7 h1
  have h2:=W6 (os:=os) fun y hy=>h y (by simp[hy])
  unfold C2 at h2⊢
  simp only[G7,K1,l_f]
  omega
theorem a0l:∀{ss:List Sup},(∀s∈ss,a6a s)→0≤E8 ss∧E8 ss≤50*ss.length
 | [],_=>by simp[E8]
 |x::ss,h=>by
  obtain⟨_,_,h1⟩:=h x (by simp)
  have h2:=a0l (ss:=ss) fun y hy=>h y (by simp[hy])
  unfold E8 at h2⊢
  simp only[G7,K1,l_f]
  omega
theorem b7z{ss:List Sup}{i:Nat}(hi:i<ss.length)(h:a7F (ss.take i))(hs:a6a ss[i])(hn:¬∃x∈ss.take i,x.sku=ss[i].sku):a7F (ss.take (i+1)):=by
 rw[l_t hi]
 refine⟨fun x hx=> ?_,?_⟩
 ·rcases List.mem_append.1 hx with hx|hx
  ·exact h.1 x hx
  ·rw[U1]at hx;rw[hx];exact hs
 ·rw[a1o]
  refine⟨h.2,by simp,fun a ha b hb=> ?_⟩
  rw[U1]at hb
  rw[hb]
  exact fun e=>hn ⟨a,ha,e⟩
theorem c2V{ss:List Sup}{i:Nat}(hi:i<ss.length)(h:a7F ss):a6a ss[i]∧¬∃x∈ss.take i,x.sku=ss[i].sku:=by
 refine⟨h.1 _ (l_v hi),?_⟩
 rintro⟨x,hx,e⟩
 have hp:=h.2
 rw[show ss=ss.take i++ss.drop i from(G0 i ss).symm,a1o]at hp
 exact hp.2.2 x hx ss[i] (by rw[X8 hi];exact l_n ..) e
section
variable{h0 h:c9}{l:List HP}
theorem c4E{p:Nat}{s:Sup}(S:St h0 h (d9 p s.enc 119::l)):a6k Tryz.prog Sup.enc h [] (.func (.func 125) #[] (List.toArray [.pointer (some ⟨p,0,none⟩)])) fun m=>dcd (m.sku=s.sku):=by
 refine⟨_,_,rfl,a5A,fun x h' hf=> ?_⟩
 have S:=S.frame hf
 have S2:St h' h' []:=St.nil h'
 have hr:∀h'',Fr h' h'' []→rd1 h'' (.pointer (some ⟨p,0,none⟩))=some (.int .i64 s.sku):=fun h'' hf=>m8 (S.frame hf)
 refine EN i125.eq_1 fun K hK=>Wa ?_
 refine tA S2 ?_
 clear S2
 intro b h'' S2
 ((try clear F);have F:=S.fx)
 clear F
 have F:=S2.fx
 (try simp(disch:=first|omega|assumption|exact l_a rfl) only[go_sem,↓wBk,simprocAttr,F,Sup.enc,hr _ S2.fr])
 exact hK _ _ ⟨rfl,S2.fr⟩
theorem a9Q{p n c:Nat}{s:Sup}{A:Option Addr}{xs:List Sup}(S:St h0 h (d9 p s.enc 119::l))(ha:Arr Sup.enc 3 h A xs)(hn:n=xs.length)(hl:xs.length<1000000):
  d8 Tryz.prog 124 [.slice A n c,.func (.func 125) #[] (List.toArray [.pointer (some ⟨p,0,none⟩)])] h fun v h'=>v= .bool (dcd (∃x∈xs,x.sku=s.sku))∧Fr h h' []:=by
 subst hn
 refine EN i124.eq_1 fun K hK=>Wa ?_
 refine cI (U0 (sz:=3) (p:=fun m:Sup=>dcd (m.sku=s.sku)) i180.2 ha rfl (by omega) (c4E S)) ?_
 rintro _ h1 ⟨rfl,hf⟩
 rcases R6 (fun m:Sup=>dcd (m.sku=s.sku)) xs 0 with⟨hx,hall⟩|⟨i,hx,hil,hbef,hat⟩
 ·have hx:K5 (fun m:Sup=>dcd (m.sku=s.sku)) xs 0= -1:=hx
  refine Wb hx ?_
  refine hK _ _ ⟨?_,hf⟩
  rw[dF]
  rintro⟨p,hp,hn⟩
  have:=hall p hp
  rw[dT hn]at this
  cases this
 ·have hx:K5 (fun m:Sup=>dcd (m.sku=s.sku)) xs 0=(i:Int):=by simpa using hx
  refine Wb hx ?_
  refine hK _ _ ⟨?_,hf⟩
  have:=hat xs[i] (l_r hil)
  rw[dT]
  exact⟨xs[i],l_v hil,s7 this⟩
end
theorem b6c{h0:c9}(C:Cfg)(r:C.rd h0)(w:C.wf)(l1:C.os.length<1000000)(l2:C.ss.length<1000000)(l3:C.ps.length<1000000)(l4:∀o∈C.os,o.ls.length<1000000):
  d8 Tryz.prog 79 [.agg C.enc.toArray] h0 fun v h'=>v= .bool (dcd (K7 C))∧Fr h0 h' []:=by
 have S:=St.nil h0
 have r':∀{h':c9}{l:List HP},St h0 h' l→C.rd h':=fun S=>r.fr S.fr
 refine EN i79.eq_1 fun K hK=>Wa ?_
 (revert S;(try clear F);refine AL fun g h S F=> ?_)
 refine Wc F @Cfg.enc.eq_1 ?_
 refine cI (b0Z (r' S).ps rfl l3) ?_
 rintro _ h ⟨rfl,hf⟩
 have S:=S.frame hf
 by_cases d1:a2p C.ps
 case neg=>
  rw[dF d1]
  refine Wa ?_
  exact hK _ _ ⟨by rw[dF (fun h=>d1 h.1)],S.fr⟩
 rw[dT d1]
 ((try clear F);have F:=S.fx)
 by_cases d2:20<(C.os.length:Int)
 ·refine Wd F @Cfg.enc.eq_1 d2 ?_
  exact hK _ _ ⟨by rw[dF (fun h=>by have:=h.2.1;omega)],S.fr⟩
 by_cases d3:20<(C.ss.length:Int)
 ·refine We F @Cfg.enc.eq_1 d2 d3 ?_
  exact hK _ _ ⟨by rw[dF (fun h=>by have:=h.2.2.1;omega)],S.fr⟩
 refine We F @Cfg.enc.eq_1 d2 d3 ?_
 refine lI (fun ρ h'=>ρ 1= .pointer (some ⟨g,0,none⟩)∧ρ 27= .slice C.A1 C.os.length C.c1∧ρ 28= .int .i64 C.os.length∧∃i:Nat,ρ 29= .int .i64 i∧i≤C.os.length∧(∀o∈C.os.take i,J6 C.ps.length o)∧ρ 3= .int .i64 (C2 (C.os.take i))∧
  St h0 h' [d9 g C.enc 26]) (fun ρ _=>C.os.length-(iv (ρ 29)).toNat) ?_ ?_
 ·refine Wa ?_
  exact⟨0,rfl,by omega,by simp,rfl,S⟩
 clear S F
 rintro ρ h J hJ ⟨e1,e27,e28,i,e29,hi,hok,e3,S⟩
 refine Wc e28 e29 ?_
 refine cD (fun hlt=> ?_) (fun hlt=> ?_)
 ·have hil:i<C.os.length:=by omega
  obtain⟨b,off,hA,hr1⟩:=(r' S).os.at hil
  have hmem:=l_v hil
  have hlb:=W6 hok
  have hlen:(C.os.take i).length≤20:=by rw[x4];omega
  have hs1:=b2d hil
  have hll:=l4 _ hmem
  have hrl:=fun {h'}{l'} (S:St h0 h' l')=>(r' S).ls _ hmem
  have hbad:¬J6 C.ps.length C.os[i]→¬K7 C:=fun hn h=>hn (h.2.2.2.1 _ hmem)
  have htk:J6 C.ps.length C.os[i]→∀o∈C.os.take (i+1),J6 C.ps.length o:=fun hx o ho=>by
   rw[l_t hil]at ho
   rcases List.mem_append.1 ho with ho|ho
   ·exact hok o ho
   ·rw[U1]at ho;rw[ho];exact hx
  generalize C.os[i]=x at*
  refine We e27 e29 hA hr1 ?_
  (revert S;(try clear F);refine AL fun q h S F=> ?_)
  refine Wc F @Odr.enc.eq_1 ?_
  (revert S;(try clear F);refine ST fun h S F=> ?_)
  refine Wd F e1 @Cfg.enc.eq_1 ?_
  refine cI (a8z x C.ps.length (hrl S) (by omega)) ?_
  rintro _ h ⟨⟨n,rfl,hn⟩,hf⟩
  have S:=S.frame hf
  by_cases c1:J6 C.ps.length x
  case neg=>
   rw[dF c1]
   refine Wa ?_
   exact hK _ _ ⟨by rw[dF (hbad c1)],S.fr⟩
  rw[dT c1,hn c1]
  have hxb:=O7 c1.2.1
  have w1:IntKind.i64.wrap (C2 (C.os.take i)+H7 x.ls)=C2 (C.os.take i)+H7 x.ls:=by
   have:=c1.1.2.1
   exact u5 (by omega) (by omega)
  refine Wd e3 w1 e29 ?_
  refine hJ _ _ ?_ ?_
  ·refine We e1 e27 e28 hA ?_
   exact⟨i+1,rfl,by omega,htk c1,by rw[hs1],S.tl⟩
  ·refine Wb e29 ?_
   omega
 obtain rfl:i=C.os.length:=by omega
 rw[C9]at hok e3
 clear hJ
 have hob:=W6 hok
 ((try clear F);have F:=S.fx)
 refine Wd e1 F @Cfg.enc.eq_1 ?_
 refine lI (fun ρ h'=>ρ 1= .pointer (some ⟨g,0,none⟩)∧ρ 48= .slice C.A2 C.ss.length C.c2∧ρ 49= .int .i64 C.ss.length∧∃i:Nat,ρ 50= .int .i64 i∧i≤C.ss.length∧a7F (C.ss.take i)∧ρ 3= .int .i64 (C2 C.os+E8 (C.ss.take i))∧
  St h0 h' [d9 g C.enc 26]) (fun ρ _=>C.ss.length-(iv (ρ 50)).toNat) ?_ ?_
 ·refine Wc e1 e3 ?_
  exact⟨0,rfl,by omega,⟨by simp,by simp⟩,by simp[E8],S⟩
 clear S F e1 e27 e28 e29 e3
 rintro ρ h J hJ ⟨e1,e48,e49,i,e50,hi,hsu,e3,S⟩
 refine Wc e49 e50 ?_
 refine cD (fun hlt=> ?_) (fun hlt=> ?_)
 ·have hil:i<C.ss.length:=by omega
  obtain⟨b,off,hA,hr1⟩:=(r' S).ss.at hil
  have hsb:=a0l hsu.1
  have hlen:(C.ss.take i).length≤20:=by rw[x4];omega
  have hs1:=a2V hil
  have hno:=fun h:K7 C=>c2V hil h.2.2.2.2.1
  have hsn:=b7z hil hsu
  have hc2:=w.l2
  have hm2:=w.m2
  generalize C.ss[i]=x at*
  refine We e48 e50 hA hr1 ?_
  (revert S;(try clear F);refine AL fun q h S F=> ?_)
  refine Wc F @Sup.enc.eq_1 ?_
  (revert S;(try clear F);refine ST fun h S F=> ?_)
  refine Wb F ?_
  refine cI (b5C _ _ _ _) ?_
  rintro _ _ ⟨rfl,rfl⟩
  by_cases c1:a7E x.sku x.price x.count
  case neg=>
   rw[dF c1]
   refine Wa ?_
   exact hK _ _ ⟨by rw[dF (fun h=>c1 (hno h).1)],S.fr⟩
  rw[dT c1]
  refine Wd e1 F @Cfg.enc.eq_1 ?_
  refine cI (a9Q (s:=x) S (c1B (r' S).ss i) (by rw[x4];omega) (by rw[x4];omega)) ?_
  rintro _ h ⟨rfl,hf⟩
  have S:=S.frame hf
  ((try clear F);have F:=S.fx)
  by_cases c2:∃y∈C.ss.take i,y.sku=x.sku
  ·rw[dT c2]
   refine Wa ?_
   exact hK _ _ ⟨by rw[dF (fun h=>(hno h).2 c2)],S.fr⟩
  rw[dF c2]
  have w1:IntKind.i64.wrap (C2 C.os+E8 (C.ss.take i)+x.count)=C2 C.os+E8 (C.ss.take i)+x.count:=by
   have:=c1.2.2
   exact u5 (by omega) (by omega)
  refine Wf e3 F w1 e50 @Sup.enc.eq_1 ?_
  refine hJ _ _ ?_ ?_
  ·refine We e1 e48 e49 hA ?_
   exact⟨i+1,rfl,by omega,hsn c1 c2,by rw[hs1,Int.add_assoc],S.tl⟩
  ·refine Wb e50 ?_
   omega
 obtain rfl:i=C.ss.length:=by omega
 rw[C9]at hsu e3
 refine Wb e3 ?_
 exact hK _ _ ⟨congrArg Value.bool (congrArg dcd (propext ⟨fun h=>⟨d1,by omega,by omega,hok,hsu,h⟩,fun h=>h.2.2.2.2.2⟩)),S.fr⟩
end
section
set_option maxHeartbeats 4000000
theorem a1z{n:Nat}(h:n<18446744073709551616):IntKind.u64.wrap (n:Int)=n:=by
 have:IntKind.u64.wrap (n:Int)=(n:Int)%18446744073709551616:=rfl
 rw[this]
 omega
theorem a6m{a b c:Nat}(h:a*b=c)(hc:c<18446744073709551616):C0 .mul (.int .u64 a) (.int .u64 b)=some (.int .u64 c):=by
 rw[b0b,←Int.natCast_mul,h,a1z hc]
theorem b9B{a b:Nat}:C0 .mul (.int .u64 a) (.int .u64 b)=some (.int .u64 (a*b%18446744073709551616:Nat)):=by
 rw[b0b,←Int.natCast_mul]
 rfl
theorem a5f{a b c:Nat}(h:a+b=c)(hc:c<18446744073709551616):C0 .add (.int .u64 a) (.int .u64 b)=some (.int .u64 c):=by
 rw[a9Z,←Int.natCast_add,h,a1z hc]
theorem b0I{a b c:Nat}(h:a=c+b)(hc:c<18446744073709551616):C0 .sub (.int .u64 a) (.int .u64 b)=some (.int .u64 c):=by
 rw[b0e,show(a:Int)-b=c by omega,a1z hc]
theorem addM{a b:Nat}:C0 .add (.int .u64 a) (.int .u64 b)=some (.int .u64 ((a+b)%18446744073709551616:Nat)):=by
 rw[a9Z,←Int.natCast_add]
 rfl
theorem subM{a b c:Nat}(h:(a+(18446744073709551616-b))%18446744073709551616=c∧b≤18446744073709551616):C0 .sub (.int .u64 a) (.int .u64 b)=some (.int .u64 c):=by
 rw[b0e]
 have:IntKind.u64.wrap ((a:Int)-b)=((a:Int)-b)%18446744073709551616:=rfl
 rw[this,show((a:Int)-b)%18446744073709551616=(c:Nat) by omega]
theorem c4u{a b c:Nat}(h:a/b=c)(hb:b≠0)(ha:a<18446744073709551616):C0 .quo (.int .u64 a) (.int .u64 b)=some (.int .u64 c):=by
 have hc:c≤a:=h▸Nat.div_le_self a b
 rw[b4x (by omega),Int.tdiv_eq_ediv_of_nonneg (by omega),←Int.natCast_ediv,h,a1z (by omega)]
theorem remE{a b c:Nat}(h:a%b=c)(hb:b≠0):C0 .rem (.int .u64 a) (.int .u64 b)=some (.int .u64 c):=by
 rw[b4y (by omega),Int.tmod_eq_emod_of_nonneg (by omega),←Int.natCast_emod,h]
theorem c0z{a k c:Nat}{k':IntKind}(hk:k≤64)(h:a/2^k=c):C0 .shr (.int .u64 a) (.int k' k)=some (.int .u64 c):=by
 rw[b0d (by omega),K0,show IntKind.u64.bits=64 from rfl,Nat.min_eq_left hk,Int.fdiv_eq_ediv_of_nonneg _ (Int.le_of_lt (Int.pow_pos (by decide)))]
 rw[←h]
 simp
theorem c4D{a k c:Nat}{k':IntKind}(hk:k≤64)(h:a*2^k%18446744073709551616=c):C0 .shl (.int .u64 a) (.int k' k)=some (.int .u64 c):=by
 rw[b4z (by omega),K0,show IntKind.u64.bits=64 from rfl,Nat.min_eq_left hk,←h]
 have:(a:Int)*2^k=((a*2^k:Nat):Int):=by simp
 rw[this]
 rfl
theorem b0s{n:Nat}:BitVec.ofInt IntKind.u64.bits (n:Int)=BitVec.ofNat 64 n:=BitVec.ofInt_natCast 64 n
theorem andE{a b c:Nat}(ha:a<18446744073709551616)(hb:b<18446744073709551616)(h:a&&&b=c):C0 .and (.int .u64 a) (.int .u64 b)=some (.int .u64 c):=by
 have hc:c≤a:=h▸Nat.and_le_left
 rw[b0a,b0s,b0s]
 have e:(BitVec.ofNat 64 a&&&BitVec.ofNat 64 b).toNat=c:=by
  rw[BitVec.toNat_and,BitVec.toNat_ofNat,BitVec.toNat_ofNat,Nat.mod_eq_of_lt (by simpa using ha),Nat.mod_eq_of_lt (by simpa using hb),h]
 exact(congrArg (fun n:Nat=>some (Value.int IntKind.u64 (IntKind.u64.wrap (n:Int)))) e).trans (by rw[a1z (by omega)])
theorem orE{a b c:Nat}(ha:a<18446744073709551616)(hb:b<18446744073709551616)(h:a|||b=c):C0 .or (.int .u64 a) (.int .u64 b)=some (.int .u64 c):=by
 have hc:c<18446744073709551616:=h▸Nat.or_lt_two_pow (n:=64) ha hb
 rw[b8m,b0s,b0s]
 have e:(BitVec.ofNat 64 a|||BitVec.ofNat 64 b).toNat=c:=by
  rw[BitVec.toNat_or,BitVec.toNat_ofNat,BitVec.toNat_ofNat,Nat.mod_eq_of_lt (by simpa using ha),Nat.mod_eq_of_lt (by simpa using hb),h]
 exact(congrArg (fun n:Nat=>some (Value.int IntKind.u64 (IntKind.u64.wrap (n:Int)))) e).trans (by rw[a1z (by omega)])
theorem a6R(a:Nat)(ha:a<18446744073709551616):C0 .and (.int .u64 a) (.int .u64 4294967295)=some (.int .u64 ((a%4294967296:Nat):Int)):=
 andE (b:=4294967295) ha (by decide) (Nat.and_two_pow_sub_one_eq_mod a 32)
theorem a2R(a:Nat):C0 .shr (.int .u64 a) (.int .u64 32)=some (.int .u64 ((a/4294967296:Nat):Int)):=c0z (k:=32) (by omega) rfl
theorem b0r{a b c d:Nat}(h1:a≤c)(h2:b≤d):a*b≤c*d:=Nat.mul_le_mul h1 h2
theorem b6V(x y:Nat):x*y=(x/4294967296)*(y/4294967296)*18446744073709551616+((x/4294967296)*(y%4294967296)+(x%4294967296)*(y/4294967296))*4294967296+(x%4294967296)*(y%4294967296):=by
 have hx:x=(x/4294967296)*4294967296+x%4294967296:=by omega
 have hy:y=(y/4294967296)*4294967296+y%4294967296:=by omega
 conv=>lhs;rw[hx,hy]
 generalize x/4294967296=a
 generalize x%4294967296=b
 generalize y/4294967296=c
 generalize y%4294967296=d
 rw[R8,Nat.mul_add,Nat.mul_add,Nat.mul_mul_mul_comm,Nat.mul_right_comm a 4294967296 d,←Nat.mul_assoc b c]
 omega
theorem b0Y(x y:Nat)(hx:x<18446744073709551616)(hy:y<18446744073709551616)(h:c9):d8 Tryz.prog 183 [.int .u64 x,.int .u64 y] h fun v h'=>v= .tuple #[.int .u64 (x*y/18446744073709551616:Nat),.int .u64 (x*y%18446744073709551616:Nat)]∧h'=h:=by
 have hs:=b6V x y
 have a1:=a6R x hx
 have a2:=a6R y hy
 have s1:=a2R x
 have s2:=a2R y
 have b1:x/4294967296≤4294967295:=by omega
 have b2:y/4294967296≤4294967295:=by omega
 have b3:x%4294967296≤4294967295:=by omega
 have b4:y%4294967296≤4294967295:=by omega
 have hlo:=b9B (a:=x) (b:=y)
 generalize x/4294967296=x1 at*
 generalize y/4294967296=y1 at*
 generalize x%4294967296=x0 at*
 generalize y%4294967296=y0 at*
 have c11:=b0r b1 b2
 have c10:=b0r b1 b4
 have c01:=b0r b3 b2
 have c00:=b0r b3 b4
 generalize h00:x0*y0=p00 at*
 generalize h10:x1*y0=p10 at*
 generalize h01:x0*y1=p01 at*
 generalize h11:x1*y1=p11 at*
 have m00:=a6m h00 (by omega)
 have m10:=a6m h10 (by omega)
 have m01:=a6m h01 (by omega)
 have m11:=a6m h11 (by omega)
 have s3:=a2R p00
 have d1:=a5f (a:=p10) (b:=p00/4294967296) rfl (by omega)
 have a3:=a6R (p10+p00/4294967296) (by omega)
 have s4:=a2R (p10+p00/4294967296)
 have d2:=a5f (a:=(p10+p00/4294967296)%4294967296) (b:=p01) rfl (by omega)
 have d3:=a5f (a:=p11) (b:=(p10+p00/4294967296)/4294967296) rfl (by omega)
 have s5:=a2R ((p10+p00/4294967296)%4294967296+p01)
 have d4:=a5f (a:=p11+(p10+p00/4294967296)/4294967296) (b:=((p10+p00/4294967296)%4294967296+p01)/4294967296) rfl (by omega)
 have hhi:p11+(p10+p00/4294967296)/4294967296+((p10+p00/4294967296)%4294967296+p01)/4294967296=x*y/18446744073709551616:=by omega
 rw[hhi]at d4
 refine EN i183.eq_1 fun K hK=> ?_
 refine Wi @i183.eq_1 a1 a2 s1 s2 m00 m10 (Pf m01 m11 s3 d1 (Pf a3 s4 d2 d3 (Pd s5 d4 hlo))) ?_
 exact hK _ _ ⟨rfl,rfl⟩
def C6(n:Nat):Nat:=if n=0 then 0 else n.log2+1
theorem F4(n k:Nat)(h:2^k≤n):C6 n=k+C6 (n/2^k):=by
 have hp:0<2^k:=Nat.pow_pos (by decide)
 have h1:n/2^k≠0:=by
  have:=Nat.div_pos h hp
  omega
 have h0:n≠0:=by omega
 unfold C6
 rw[if_neg h0,if_neg h1]
 have:n.log2=k+(n/2^k).log2:=by
  rw[Nat.log2_eq_iff h0]
  have h2:=(Nat.log2_eq_iff h1).1 rfl
  constructor
  ·rw[Nat.pow_add,a0w]
   exact(Nat.le_div_iff_mul_le hp).1 h2.1
  ·rw[show k+(n/2^k).log2+1=((n/2^k).log2+1)+k by omega,Nat.pow_add]
   exact(Nat.div_lt_iff_lt_mul hp).1 h2.2
 omega
theorem X5{n:Nat}(h:n≠0):2^(C6 n-1)≤n∧n<2^C6 n∧0<C6 n:=by
 unfold C6
 rw[if_neg h]
 have:=(Nat.log2_eq_iff h).1 rfl
 exact⟨by simpa using this.1,this.2,by omega⟩
def c3x(T:Value):Bool:=(List.range 256).all fun n=>match a7r T (.int .u8 n)with
 |some (.int .u8 k)=>k==(C6 n:Int)
 |_=>false
theorem c4G{T:Value}(h:c3x T=true){n:Nat}(hn:n<256):a7r T (.int .u8 n)=some (.int .u8 (C6 n:Nat)):=by
 have:=List.all_eq_true.1 h n (List.mem_range.2 hn)
 split at this
 ·rename_i k e
  rw[e,eq_of_beq this]
 ·cases this
theorem X3{T:Value}{n:Nat}{K:Value→Prop}{t:Tag K}(h:c3x T=true)(hn:n<256)(hk:K (.int .u8 (C6 n:Nat))):D7 (a7r T (.int .u8 n)) K t:=by
 rw[c4G h hn]
 exact hk
theorem a6j{n:Nat}(h:n<256):IntKind.u8.wrap (n:Int)=n:=by
 have:IntKind.u8.wrap (n:Int)=(n:Int)%256:=rfl
 rw[this]
 omega
theorem X4{n:Nat}(h:n<256):C6 n≤8:=by
 by_cases h0:n=0
 ·subst h0;decide
 ·have:=(X5 h0).1
  have h2:=(X5 h0).2.2
  apply Nat.le_of_not_lt
  intro h3
  have:2^8≤2^(C6 n-1):=Nat.pow_le_pow_right (by decide) (by omega)
  omega
theorem S9{b m a:Nat}(h:a=m+b)(hb:b≤8)(hm:m≤56):IntKind.i64.wrap ((m:Int)+IntKind.i64.wrap (b:Int))=a:=by
 rw[u5 (x:=(b:Int)) (by omega) (by omega),u5 (by omega) (by omega)]
 omega
set_option maxRecDepth 1000000 in
theorem b7N(x:Nat)(hx:x<18446744073709551616)(h:c9):d8 Tryz.prog 230 [.int .u64 x] h fun v h'=>v= .int .i64 (C6 x:Nat)∧h'=h:=by
 have s32:=fun n=>a2R n
 have s16:∀n:Nat,C0 .shr (.int .u64 n) (.int .u64 16)=some (.int .u64 ((n/65536:Nat):Int)):=fun n=>c0z (k:=16) (by omega) rfl
 have s8:∀n:Nat,C0 .shr (.int .u64 n) (.int .u64 8)=some (.int .u64 ((n/256:Nat):Int)):=fun n=>c0z (k:=8) (by omega) rfl
 have w16:IntKind.i64.wrap ((0:Int)+16)=16:=by decide
 have w8:IntKind.i64.wrap ((0:Int)+8)=8:=by decide
 have w48:IntKind.i64.wrap ((32:Int)+16)=48:=by decide
 have w40:IntKind.i64.wrap ((32:Int)+8)=40:=by decide
 have w56:IntKind.i64.wrap ((48:Int)+8)=56:=by decide
 have w24:IntKind.i64.wrap ((16:Int)+8)=24:=by decide
 refine EN i230.eq_1 fun K hK=> ?_
 by_cases c0:(4294967296:Int)≤(x:Nat)
 ·refine Wi @i230.eq_1 c0 s32 s16 s8 w16 w8 (Pe w48 w40 w56 w24) ?_
  by_cases c1:(65536:Int)≤((x)/4294967296:Nat)
  ·refine Wi c1 s32 s16 s8 w16 w8 w48 (Pd w40 w56 w24) ?_
   by_cases c2:(256:Int)≤(((x)/4294967296)/65536:Nat)
   ·refine Wi c2 s32 s16 s8 w16 w8 w48 (Pd w40 w56 w24) ?_
    have hw:=a6j (n:=(((x)/4294967296)/65536)/256) (by omega)
    refine Wb hw ?_
    refine X3 (by kernel_rfl) (by omega) ?_
    refine Wa ?_
    refine hK _ _ ⟨congrArg (Value.int .i64) (S9 (m:=56) ?_ (X4 (by omega)) (by omega)),rfl⟩
    have q32:=F4 (x) 32 (by omega)
    rw[show(2:Nat)^32=4294967296 from rfl]at q32
    have q16:=F4 ((x)/4294967296) 16 (by omega)
    rw[show(2:Nat)^16=65536 from rfl]at q16
    have q8:=F4 (((x)/4294967296)/65536) 8 (by omega)
    rw[show(2:Nat)^8=256 from rfl]at q8
    omega
   ·refine Wi c2 s32 s16 s8 w16 w8 w48 (Pd w40 w56 w24) ?_
    have hw:=a6j (n:=((x)/4294967296)/65536) (by omega)
    refine Wb hw ?_
    refine X3 (by kernel_rfl) (by omega) ?_
    refine Wa ?_
    refine hK _ _ ⟨congrArg (Value.int .i64) (S9 (m:=48) ?_ (X4 (by omega)) (by omega)),rfl⟩
    have q32:=F4 (x) 32 (by omega)
    rw[show(2:Nat)^32=4294967296 from rfl]at q32
    have q16:=F4 ((x)/4294967296) 16 (by omega)
    rw[show(2:Nat)^16=65536 from rfl]at q16
    omega
  ·refine Wi c1 s32 s16 s8 w16 w8 w48 (Pd w40 w56 w24) ?_
   by_cases c2:(256:Int)≤((x)/4294967296:Nat)
   ·refine Wi c2 s32 s16 s8 w16 w8 w48 (Pd w40 w56 w24) ?_
    have hw:=a6j (n:=((x)/4294967296)/256) (by omega)
    refine Wb hw ?_
    refine X3 (by kernel_rfl) (by omega) ?_
    refine Wa ?_
    refine hK _ _ ⟨congrArg (Value.int .i64) (S9 (m:=40) ?_ (X4 (by omega)) (by omega)),rfl⟩
    have q32:=F4 (x) 32 (by omega)
    rw[show(2:Nat)^32=4294967296 from rfl]at q32
    have q8:=F4 ((x)/4294967296) 8 (by omega)
    rw[show(2:Nat)^8=256 from rfl]at q8
    omega
   ·refine Wi c2 s32 s16 s8 w16 w8 w48 (Pd w40 w56 w24) ?_
    have hw:=a6j (n:=(x)/4294967296) (by omega)
    refine Wb hw ?_
    refine X3 (by kernel_rfl) (by omega) ?_
    refine Wa ?_
    refine hK _ _ ⟨congrArg (Value.int .i64) (S9 (m:=32) ?_ (X4 (by omega)) (by omega)),rfl⟩
    have q32:=F4 (x) 32 (by omega)
    rw[show(2:Nat)^32=4294967296 from rfl]at q32
    omega
 ·refine Wi @i230.eq_1 c0 s32 s16 s8 w16 w8 (Pe w48 w40 w56 w24) ?_
  by_cases c1:(65536:Int)≤(x:Nat)
  ·refine Wi c1 s32 s16 s8 w16 w8 w48 (Pd w40 w56 w24) ?_
   by_cases c2:(256:Int)≤((x)/65536:Nat)
   ·refine Wi c2 s32 s16 s8 w16 w8 w48 (Pd w40 w56 w24) ?_
    have hw:=a6j (n:=((x)/65536)/256) (by omega)
    refine Wb hw ?_
    refine X3 (by kernel_rfl) (by omega) ?_
    refine Wa ?_
    refine hK _ _ ⟨congrArg (Value.int .i64) (S9 (m:=24) ?_ (X4 (by omega)) (by omega)),rfl⟩
    have q16:=F4 (x) 16 (by omega)
    rw[show(2:Nat)^16=65536 from rfl]at q16
    have q8:=F4 ((x)/65536) 8 (by omega)
    rw[show(2:Nat)^8=256 from rfl]at q8
    omega
   ·refine Wi c2 s32 s16 s8 w16 w8 w48 (Pd w40 w56 w24) ?_
    have hw:=a6j (n:=(x)/65536) (by omega)
    refine Wb hw ?_
    refine X3 (by kernel_rfl) (by omega) ?_
    refine Wa ?_
    refine hK _ _ ⟨congrArg (Value.int .i64) (S9 (m:=16) ?_ (X4 (by omega)) (by omega)),rfl⟩
    have q16:=F4 (x) 16 (by omega)
    rw[show(2:Nat)^16=65536 from rfl]at q16
    omega
  ·refine Wi c1 s32 s16 s8 w16 w8 w48 (Pd w40 w56 w24) ?_
   by_cases c2:(256:Int)≤(x:Nat)
   ·refine Wi c2 s32 s16 s8 w16 w8 w48 (Pd w40 w56 w24) ?_
    have hw:=a6j (n:=(x)/256) (by omega)
    refine Wb hw ?_
    refine X3 (by kernel_rfl) (by omega) ?_
    refine Wa ?_
    refine hK _ _ ⟨congrArg (Value.int .i64) (S9 (m:=8) ?_ (X4 (by omega)) (by omega)),rfl⟩
    have q8:=F4 (x) 8 (by omega)
    rw[show(2:Nat)^8=256 from rfl]at q8
    omega
   ·refine Wi c2 s32 s16 s8 w16 w8 w48 (Pd w40 w56 w24) ?_
    have hw:=a6j (n:=x) (by omega)
    refine Wb hw ?_
    refine X3 (by kernel_rfl) (by omega) ?_
    refine Wa ?_
    refine hK _ _ ⟨congrArg (Value.int .i64) (S9 (m:=0) ?_ (X4 (by omega)) (by omega)),rfl⟩
    omega
end
section
set_option maxHeartbeats 8000000
set_option maxRecDepth 100000
section
variable{y1 y0 u u1 q r:Nat}
theorem b4I(hy:0<y1)(hu1:u1<4294967296):(u*4294967296+u1)/(y1*4294967296+y0)≤u/y1:=by
 have h1:(u*4294967296+u1)/(y1*4294967296+y0)≤(u*4294967296+u1)/(4294967296*y1):=Nat.div_le_div_left (by omega) (by omega)
 rw[←Nat.div_div_eq_div_mul,show(u*4294967296+u1)/4294967296=u by omega]at h1
 exact h1
theorem a2Z(hy:0<y1)(hq:q*y1+r=u)(h:q*y0≤r*4294967296+u1):q≤(u*4294967296+u1)/(y1*4294967296+y0):=by
 rw[Nat.le_div_iff_mul_le (by omega),Nat.mul_add,←Nat.mul_assoc,←hq,R8]
 omega
theorem b1u(hy:0<y1)(hq:q*y1+r=u)(h:r*4294967296+u1<q*y0):(u*4294967296+u1)/(y1*4294967296+y0)<q:=by
 rw[Nat.div_lt_iff_lt_mul (by omega)]
 have e1:q*(y1*4294967296+y0)=q*y1*4294967296+q*y0:=by rw[Nat.mul_add,←Nat.mul_assoc]
 rw[e1,←hq]
 generalize q*y1=a at*
 generalize q*y0=b at*
 rw[R8,Nat.add_assoc]
 exact Nat.add_lt_add_left h _
theorem b0f(hy:0<y1)(hu1:u1<4294967296)(hu:u<y1*4294967296+y0):(u*4294967296+u1)/(y1*4294967296+y0)<4294967296:=by
 rw[Nat.div_lt_iff_lt_mul (by omega)]
 omega
theorem b8F(hy:2147483648≤y1)(hy0:y0<4294967296)(hu:u<y1*4294967296+y0):u/y1≤4294967297:=by
 apply Nat.le_of_lt_succ
 rw[Nat.div_lt_iff_lt_mul (by omega)]
 omega
end
theorem a1q{P:Program}{c:j6}{id:Nat}{T:Env→c9→Prop}{Q:D6→Env→c9→Prop}{ρ:Env}{h:c9}{t1:Tag c}{t2:Tag (a2N id (V0 T Q))}{t3:Tag ρ}{t4:Tag h}(I:Env→c9→Prop)
  (hw:∀J:Env→c9→Prop,(∀ρ h,I ρ h→J ρ h)→a7B P c (a2N id (V0 J Q)) ρ h ⟨⟩ ⟨⟩ ⟨⟩ ⟨⟩) (hT:∀ρ h,I ρ h→T ρ h):a7B P c (a2N id (V0 T Q)) ρ h t1 t2 t3 t4:=hw T hT
theorem a4h(x:Nat)(hx:x<18446744073709551616)(h:c9):d8 Tryz.prog 218 [.int .u64 x] h fun v h'=>v= .int .i64 (64-(C6 x:Int))∧h'=h:=by
 refine EN i218.eq_1 fun K hK=>Wa ?_
 refine cI (b7N x hx h) ?_
 rintro _ _ ⟨rfl,rfl⟩
 have hb:C6 x≤64:=by
  by_cases h0:x=0
  ·subst h0;decide
  ·have:=(X5 h0).1
   have h2:=(X5 h0).2.2
   apply Nat.le_of_not_lt
   intro h3
   have:2^64≤2^(C6 x-1):=Nat.pow_le_pow_right (by decide) (by omega)
   omega
 have hw:IntKind.i64.wrap (64-(C6 x:Int))=64-(C6 x:Int):=u5 (by omega) (by omega)
 refine Wb hw ?_
 exact hK _ _ ⟨rfl,rfl⟩
theorem b6W{y:Nat}(h0:0<y)(hy:y<18446744073709551616):∃s:Nat,64-(C6 y:Int)=s∧s<64∧y*2^s<18446744073709551616∧9223372036854775808≤y*2^s:=by
 obtain⟨h1,h2,h3⟩:=X5 (n:=y) (by omega)
 have hb:C6 y≤64:=by
  apply Nat.le_of_not_lt
  intro h4
  have:2^64≤2^(C6 y-1):=Nat.pow_le_pow_right (by decide) (by omega)
  omega
 refine⟨64-C6 y,by omega,by omega,?_,?_⟩
 ·have:y*2^(64-C6 y)<2^C6 y*2^(64-C6 y):=Nat.mul_lt_mul_of_pos_right h2 (Nat.pow_pos (by decide))
  rw[←Nat.pow_add,show C6 y+(64-C6 y)=64 by omega]at this
  exact this
 ·have:2^(C6 y-1)*2^(64-C6 y)≤y*2^(64-C6 y):=a1n _ h1
  rw[←Nat.pow_add,show C6 y-1+(64-C6 y)=63 by omega]at this
  exact this
theorem b4o{hi lo s:Nat}(hs:s<64)(hlo:lo<18446744073709551616):(hi*2^s+lo/2^(64-s))*18446744073709551616+lo*2^s%18446744073709551616=(hi*18446744073709551616+lo)*2^s:=by
 have e:2^(64-s)*2^s=18446744073709551616:=by rw[←Nat.pow_add,show 64-s+s=64 by omega]
 have h1:lo*2^s/18446744073709551616=lo/2^(64-s):=by rw[←e,Nat.mul_div_mul_right _ _ (Nat.pow_pos (by decide))]
 have h2:=Nat.div_add_mod (lo*2^s) 18446744073709551616
 rw[h1]at h2
 rw[R8,R8,Nat.mul_right_comm hi]
 omega
theorem b4d{Y u32 u1 u0:Nat}(hY:0<Y)(h0:u0<4294967296):
  let N1:=u32*4294967296+u1
  let N0:=(N1%Y)*4294967296+u0
  (u32*18446744073709551616+(u1*4294967296+u0))/Y=(N1/Y)*4294967296+N0/Y∧(u32*18446744073709551616+(u1*4294967296+u0))%Y=N0%Y:=by
 intro N1 N0
 have e1:=Nat.div_add_mod N1 Y
 have e2:=Nat.div_add_mod N0 Y
 have hlt:=Nat.mod_lt N0 hY
 have hW:u32*18446744073709551616+(u1*4294967296+u0)=((N1/Y)*4294967296+N0/Y)*Y+N0%Y:=by
  have e3:N1*4294967296+u0=u32*18446744073709551616+(u1*4294967296+u0):=by show(u32*4294967296+u1)*4294967296+u0=_;omega
  have e4:N0=N1%Y*4294967296+u0:=rfl
  rw[R8,Nat.mul_right_comm,a0w (N1/Y) Y,a0w (N0/Y) Y,Nat.add_assoc,e2,e4,←e3,←Nat.add_assoc,←R8,e1]
 rw[hW]
 constructor
 ·rw[a0w,Nat.mul_add_div hY,Nat.div_eq_of_lt hlt,H8]
 ·rw[a0w,Nat.mul_add_mod,Nat.mod_eq_of_lt hlt]
theorem b6B{Y u32 u1 u0:Nat}(hY:0<Y)(h0:u0<4294967296):∃q1 u21 q0 rm,q1=(u32*4294967296+u1)/Y∧q1*Y+u21=u32*4294967296+u1∧u21<Y∧q0=(u21*4294967296+u0)/Y∧q0*Y+rm=u21*4294967296+u0∧rm<Y∧
  (u32*18446744073709551616+(u1*4294967296+u0))/Y=q1*4294967296+q0∧(u32*18446744073709551616+(u1*4294967296+u0))%Y=rm:=by
 have h:=b4d (u32:=u32) (u1:=u1) hY h0
 refine⟨_,_,_,_,rfl,?_,Nat.mod_lt _ hY,rfl,?_,Nat.mod_lt _ hY,h.1,h.2⟩
 ·rw[a0w];exact Nat.div_add_mod _ _
 ·rw[a0w];exact Nat.div_add_mod _ _
theorem c5j{q:Nat}(h:q<4294967296):q*4294967296<18446744073709551616:=by omega
theorem c5k{q r:Nat}(h:q<4294967296)(k:r<4294967296):q*4294967296+r<18446744073709551616:=by omega
end
section
set_option maxHeartbeats 4000000
def i6(x:Int):List Value:=[.int .i64 x]
theorem zEl(x:Int):(i6 x).length=1:=rfl
theorem zEp(x:Int):pC (i6 x)=true:=rfl
section
variable{h0 h:c9}{l:List HP}
theorem F8{T b n c:Nat}{D:List Int}(S:St h0 h (i4 i6 1 T (.slice (some ⟨b,0,none⟩) n c) D::l)){i:Nat}{x:Int}(hx:D[i]? =some x):rd1 h (.pointer (some ⟨b,i*1,none⟩))=some (.int .i64 x):=by
 obtain⟨hi,rfl⟩:=List.getElem?_eq_some_iff.1 hx
 obtain⟨b',o',hA,hr⟩:=S.arr zEl i hi
 cases hA
 have:=rP hr 0 (by omega)
 simpa[i6]using this
theorem a1y(A1 A2 A3:List Int)(x y:Int):
  let D:=A1++x::(A2++y::A3)
  D[A1.length]? =some x∧D[A1.length+1+A2.length]? =some y∧(D.set A1.length y).set (A1.length+1+A2.length) x=A1++y::(A2++x::A3)∧(D.set (A1.length+1+A2.length) x).set A1.length y=A1++y::(A2++x::A3):=by
 have e:∀a:Int,(A1++a::(A2++y::A3))=(A1++a::A2)++y::A3:=fun a=>by simp
 have e2:∀a:Int,(A1++a::(A2++x::A3))=(A1++a::A2)++x::A3:=fun a=>by simp
 have hl:∀a:Int,(A1++a::A2).length=A1.length+1+A2.length:=fun a=>by simp;omega
 intro D
 refine⟨?_,?_,?_,?_⟩
 ·show(A1++x::_)[A1.length]? =_
  rw[a8x (x9 _),Nat.sub_self];rfl
 ·show(A1++x::(A2++y::A3))[_]? =_
  rw[e,←hl x,a8x (x9 _),Nat.sub_self];rfl
 ·show((A1++x::(A2++y::A3)).set _ y).set _ x=_
  rw[a6l _ _ (x9 _),Nat.sub_self,l_h,e,←hl y,a6l _ _ (x9 _),Nat.sub_self,l_h,e2]
 ·show((A1++x::(A2++y::A3)).set _ x).set _ y=_
  rw[e,←hl x,a6l _ _ (x9 _),Nat.sub_self,l_h,←e2,a6l _ _ (x9 _),Nat.sub_self,l_h]
theorem b1I{n:Nat}(h:n<9223372036854775808):IntKind.i64.wrap (n:Int)=n:=u5 (by omega) (by omega)
theorem a3G{a b c:Nat}(h:a+b=c)(hc:c<9223372036854775808):IntKind.i64.wrap ((a:Int)+b)=c:=by rw[show(a:Int)+b=c by omega];exact b1I hc
theorem a1V{a b c:Nat}(h:a=c+b)(hc:c<9223372036854775808):IntKind.i64.wrap ((a:Int)-b)=c:=by rw[show(a:Int)-b=c by omega];exact b1I hc
theorem a1W{A:Option Addr}{c:Nat}{fv:Value}(L P M Q R:List Int)(hPQ:P.length=Q.length){n a b:Nat}(hn:n=(L++(P++(M++(Q++R)))).length)(ha:a=L.length)(hb:b=L.length+P.length+M.length)(hs:n<1000000){k:Nat}(hk:k=P.length)
  (S:St h0 h (i4 i6 1 3 (.slice A n c) (L++(P++(M++(Q++R))))::l)):
  d8 Tryz.prog 242 [.slice A n c,.int .i64 a,.int .i64 b,.int .i64 k,fv] h fun v h'=>St h0 h' (i4 i6 1 3 (.slice A n c) (L++(Q++(M++(P++R))))::l):=by
 subst hk
 have hnl:n=L.length+(P.length+(M.length+(Q.length+R.length))):=by rw[hn];simp only[l_m]
 refine EN i242.eq_1 fun K hK=>Wa ?_
 refine lI (fun ρ h'=>ρ 0= .slice A n c∧ρ 1= .int .i64 a∧ρ 2= .int .i64 b∧ρ 3= .int .i64 P.length∧∃i:Nat,ρ 10= .int .i64 i∧i≤P.length∧St h0 h' (i4 i6 1 3 (.slice A n c) (L++((Q.take i++P.drop i)++(M++((P.take i++Q.drop i)++R))))::l)) (fun ρ _=>P.length-(iv (ρ 10)).toNat) ?_ ?_
 ·refine Wa ?_
  exact⟨0,rfl,by omega,by simpa using S⟩
 ·clear S
  rintro ρ h J hJ ⟨e0,e1,e2,e3,i,e10,hi,S⟩
  refine Wc e10 e3 ?_
  refine cD (fun hlt=> ?_) (fun hlt=> ?_)
  ·have hiP:i<P.length:=by omega
   have hiQ:i<Q.length:=by omega
   have hD:L++((Q.take i++P.drop i)++(M++((P.take i++Q.drop i)++R)))=(L++Q.take i)++P[i]::((P.drop (i+1)++M++P.take i)++Q[i]::(Q.drop (i+1)++R)):=by
    rw[X8 hiP,X8 hiQ]
    simp only[l_q,l_j,l_k]
   have hD2:(L++Q.take i)++Q[i]::((P.drop (i+1)++M++P.take i)++P[i]::(Q.drop (i+1)++R))=L++((Q.take (i+1)++P.drop (i+1))++(M++((P.take (i+1)++Q.drop (i+1))++R))):=by
    rw[l_t hiP,l_t hiQ]
    simp only[l_q,l_j,l_k]
   have hl1:(L++Q.take i).length=a+i:=by rw[l_m,x4];omega
   have hl2:(L++Q.take i).length+1+(P.drop (i+1)++M++P.take i).length=b+i:=by simp only[l_m,x4,M2];omega
   obtain⟨g1,g2,g3,_⟩:=a1y (L++Q.take i) (P.drop (i+1)++M++P.take i) (Q.drop (i+1)++R) P[i] Q[i]
   rw[hD]at S
   obtain⟨bk,rfl⟩:=S.ownAt (by simp only[l_m,l_f];omega)
   have r1:=F8 S g1
   have r2:=F8 S g2
   rw[hl2]at r2 g3
   rw[hl1]at r1 g3
   have w1:=a3G (a:=a) (b:=i) rfl (by omega)
   have w2:=a3G (a:=b) (b:=i) rfl (by omega)
   refine Wa ?_
   refine dE ?_
   refine Wi e0 e1 e2 e10 w1 w2 r1 r2 ?_
   refine v7 (i:=a+i) (x:=Q[i]) zEl S (by rw[←hl1];simp only[l_m,l_f];omega) rfl rfl rfl rfl ?_
   clear S r1 r2
   intro h S
   refine Wa ?_
   refine v7 (i:=b+i) (x:=P[i]) zEl S (by rw[T3,←hl2];simp only[l_m,l_f];omega) rfl rfl rfl rfl ?_
   clear S
   intro h S
   rw[g3,hD2]at S
   refine Wb e10 ?_
   refine hJ _ _ ?_ ?_
   ·refine We e0 e1 e2 e3 ?_
    exact⟨i+1,rfl,by omega,S⟩
   ·refine Wb e10 ?_
    omega
  ·obtain rfl:i=P.length:=by omega
   refine Wa ?_
   refine hK _ _ ?_
   rw[C9,List.drop_length,hPQ,C9,List.drop_length]at S
   simpa using S
end
end
end Go.Proofs.YtjagmebglhbdkaaGreat.MX
