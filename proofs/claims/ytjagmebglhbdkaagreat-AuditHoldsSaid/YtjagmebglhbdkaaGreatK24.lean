import Derived.Test.YtjagmebglhbdkaaGreatK12
import Derived.Test.YtjagmebglhbdkaaGreatK20
import Derived.Test.YtjagmebglhbdkaaGreatK21
import Derived.Test.YtjagmebglhbdkaaGreatK22
import Derived.Test.YtjagmebglhbdkaaGreatK23
import Derived.Test.YtjagmebglhbdkaaGreatK17
import Derived.Test.YtjagmebglhbdkaaGreatK18
namespace Go.Proofs.YtjagmebglhbdkaaGreat.MX
open Go Go.Proofs
set_option linter.unusedSimpArgs false
set_option linter.unusedVariables false
section
set_option maxHeartbeats 8000000
structure Led where
 a:Int
 b:Int
 c:Int
 d:Int
 e:Int
structure Sag where
 K:List KU
 led:Led
 R:List Ret
 T:List Tm
 key:Int
 O:List Msg
 now:Int
def b3f(D:Cfg):HP:=a1U (i4 Odr.enc 5 86 (.slice D.A1 D.os.length D.c1) D.os::i4 Sup.enc 3 119 (.slice D.A2 D.ss.length D.c2) D.ss::i4 Pol.enc 16 83 (.slice D.A3 D.ps.length D.c3) D.ps::D.os.map b1X)
def j2(x:i0):HP:=a2S (i4 i6 1 3 (.slice x.A x.r.us.length x.c) x.r.us) (i4 i6 1 3 (.slice x.B x.r.gs.length x.d) x.r.gs)
def a3B(s:Value)(R:List Ret):HP:=exA fun vs:List i0=>a1U (b2n (vs.map i0.r=R)::i4 i0.enc 14 136 s vs::vs.map j2)
def t8(D:Cfg)(u:Value)(k t o:Nat)(rs sd:Value)(s:Sag):List Value:=[.slice D.A1 D.os.length D.c1,.slice D.A2 D.ss.length D.c2,.slice D.A3 D.ps.length D.c3,u,.pointer (some ⟨k,0,none⟩),.int .i64 s.led.a,.int .i64 s.led.b,.int .i64 s.led.c,.int .i64 s.led.d,.int .i64 s.led.e,rs,.pointer (some ⟨t,0,none⟩),.pointer (some ⟨o,0,none⟩),.int .i64 s.now,sd]
def B5(p:Nat)(D:Cfg)(u:Value)(s:Sag):HP:=exA fun x:Nat×Nat×Nat×Value=>a1U [d9 p (t8 D u x.1 x.2.1 x.2.2.1 x.2.2.2 (.slice none 0 0) s) 113,t6 x.1 s.K,H2 x.2.1 s.T,D8 x.2.2.1 s.key s.O,a3B x.2.2.2 s.R]
def a0J(D:Cfg)(u:Value)(U:List Unt):HP:=a2S (b3f D) (i4 Unt.enc 4 97 u U)
section
variable{h0 h:c9}{l:List HP}{p:Nat}{D:Cfg}{u:Value}{s:Sag}{U:List Unt}
theorem b4C(S:St h0 h (b3f D::l)):D.rd h:=by
 have S:=St.stars.1 S
 simp only[l_j]at S
 have R:=b2x (L:=[_,_,_]) S
 exact⟨S.arr Odr.enc_len,fun o ho=>(R o ho).1,S.p1.arr Sup.enc_len,S.p2.arr Pol.enc_len⟩
theorem c1M(S:St h0 h l)(hm:b3f D∈l):D.rd h:=by
 obtain⟨M,S⟩:=Z4 S hm
 exact b4C S
theorem b0G(S:St h0 h (a0J D u U::l)):D.rd h∧∃A c,u= .slice A U.length c∧Arr Unt.enc 4 h A U:=by
 have S:=St.star.1 S
 refine⟨b4C S,?_⟩
 obtain⟨A,c,rfl⟩:=S.p1.sl
 exact⟨A,c,rfl,S.p1.arr Unt.enc_len⟩
theorem c2U(S:St h0 h l)(hm:a0J D u U∈l):D.rd h∧∃A c,u= .slice A U.length c∧Arr Unt.enc 4 h A U:=by
 obtain⟨M,S⟩:=Z4 S hm
 exact b0G S
theorem St.rmas{v:Value}{R:List Ret}:St h0 h (a3B v R::l)↔∃vs,vs.map i0.r=R∧St h0 h (i4 i0.enc 14 136 v vs::(vs.map j2++l)):=by
 rw[a3B,St.ex]
 refine exists_congr fun vs=> ?_
 rw[St.stars]
 exact St.pure
theorem St.saga:St h0 h (B5 p D u s::l)↔∃k t o rs,St h0 h (d9 p (t8 D u k t o rs (.slice none 0 0) s) 113::t6 k s.K::H2 t s.T::D8 o s.key s.O::a3B rs s.R::l):=by
 rw[B5,St.ex]
 constructor
 ·rintro⟨⟨k,t,o,rs⟩,S⟩
  exact⟨k,t,o,rs,St.stars.1 S⟩
 ·rintro⟨k,t,o,rs,S⟩
  exact⟨⟨k,t,o,rs⟩,St.stars.2 S⟩
theorem K4{x:i0}(S:St h0 h l)(hm:j2 x∈l):Arr i6 1 h x.A x.r.us∧Arr i6 1 h x.B x.r.gs:=by
 obtain⟨M,S⟩:=Z4 S hm
 have S:=St.star.1 S
 exact⟨S.arr zEl,S.p1.arr zEl⟩
theorem K7.len{D:Cfg}(hok:K7 D):D.os.length≤20∧D.ss.length≤20∧D.ps.length≤16∧∀o∈D.os,o.ls.length≤8:=by
 obtain⟨k0,k1,k2,k3,k4,_⟩:=id hok
 exact⟨k1,k2,k0.1,fun o ho=>(k3 o ho).1.2.1.2⟩
theorem a5M(C:Cfg)(r:∀h',St h0 h' l→C.rd h')(hok:K7 C)(S:St h0 h l):
  d8 Tryz.prog 40 [.agg C.enc.toArray] h fun v h'=>∃D:Cfg,v= .agg D.enc.toArray∧D.wf∧D.pu=C.pu∧St h0 h' (b3f D::l):=by
 obtain⟨k1,k2,k3,k4⟩:=hok.len
 refine(b6b C r (by omega) (by omega) (by omega) (fun o ho=>by have:=k4 o ho;omega) S).mono ?_
 rintro v h' ⟨D,rfl,hw,hp,S⟩
 exact⟨D,rfl,hw,hp,St.stars.2 S⟩
theorem b5U(S:St h0 h (B5 p D u s::l))(r:∀h',St h0 h' l→D.rd h')(hok:K7 D):
  d8 Tryz.prog 65 [.pointer (some ⟨p,0,none⟩)] h fun v h'=>∃E:Cfg,v= .agg E.enc.toArray∧E.wf∧E.pu=D.pu∧St h0 h' (b3f E::B5 p D u s::l):=by
 refine EN i65.eq_1 fun K hK=>Wa ?_
 (revert S;(try clear F);refine AL fun g h S F=> ?_)
 obtain⟨k,t,o,rs,S⟩:=St.saga.1 S.p1
 ((try clear F);have F:=S.fx)
 refine Wc F @t8.eq_1 ?_
 rw[show [Value.slice D.A1 D.os.length D.c1,.slice D.A2 D.ss.length D.c2,.slice D.A3 D.ps.length D.c3]=D.enc from rfl]
 refine cI (a5M D (fun h' S=>r h' S.tl.tl.tl.tl.tl.tl) hok S) ?_
 clear S F
 rintro _ h ⟨E,rfl,hw,hp,S⟩
 refine Wa ?_
 refine tS S.p6 rfl rfl (l_a rfl) ?_
 clear S
 intro h S
 rw[Cfg.enc]at S
 replace S:=S.nm
 ((try clear F);have F:=S.fx)
 refine Wb F ?_
 exact hK _ _ ⟨E,rfl,hw,hp,(St.saga.2 ⟨k,t,o,rs,S.tl.p5.p5.p5.p5.p5⟩).p1⟩
theorem b6a(S:St h0 h (B5 p D u s::l)):
  d8 Tryz.prog 73 [.pointer (some ⟨p,0,none⟩)] h fun v h'=>v= .agg (List.toArray [.int .i64 s.led.a,.int .i64 s.led.b,.int .i64 s.led.c,.int .i64 s.led.d,.int .i64 s.led.e])∧St h0 h' (B5 p D u s::l):=by
 refine EN i73.eq_1 fun K hK=>Wa ?_
 (revert S;(try clear F);refine AL fun g h S F=> ?_)
 obtain⟨k,t,o,rs,S⟩:=St.saga.1 S.p1
 ((try clear F);have F:=S.fx)
 refine Wc F @t8.eq_1 ?_
 refine tS S.p5 rfl rfl (l_a rfl) ?_
 clear S F
 intro h S
 replace S:=S.nm
 ((try clear F);have F:=S.fx)
 refine Wb F ?_
 exact hK _ _ ⟨rfl,St.saga.2 ⟨k,t,o,rs,S.tl⟩⟩
theorem b5T{A:Option Addr}{n c:Nat}{xs:List Unt}(S:St h0 h l)(ha:Arr Unt.enc 4 h A xs)(hn:n=xs.length)(hl:xs.length<1000000000):
  d8 Tryz.prog 112 [.slice A n c] h fun v h'=>St h0 h' (i4 Unt.enc 4 97 v xs::l):=
 (Q0 (T:=97) (sz:=4) (bytes:=32) i112.2 Unt.enc_len (by omega) Unt.enc_plain rfl ha hn (a0q ha) (by omega) (by omega)).mono fun v h' ⟨ho,hf,_⟩=>S.ownNew hf ho
theorem b1c{A:Option Addr}{c:Nat}(S:St h0 h (B5 p D (.slice A U.length c) s::l))(r:∀h',St h0 h' l→Arr Unt.enc 4 h' A U)(hl:U.length<1000000):
  d8 Tryz.prog 64 [.pointer (some ⟨p,0,none⟩)] h fun v h'=>St h0 h' (i4 Unt.enc 4 97 v U::B5 p D (.slice A U.length c) s::l):=by
 refine EN i64.eq_1 fun K hK=>Wa ?_
 have hr:=r _ S.tl
 obtain⟨k,t,o,rs,S1⟩:=St.saga.1 S
 have F:=S1.fx
 refine Wc F @t8.eq_1 ?_
 refine cI (b5T S hr rfl (by omega)) ?_
 intro v h S
 refine Wa ?_
 exact hK _ _ S
theorem a8I(S:St h0 h (B5 p D u s::l))(hl:s.K.length<1000000):
  d8 Tryz.prog 62 [.pointer (some ⟨p,0,none⟩)] h fun v h'=>∃k,v= .pointer (some ⟨k,0,none⟩)∧St h0 h' (t6 k s.K::B5 p D u s::l):=by
 refine EN i62.eq_1 fun K hK=>Wa ?_
 obtain⟨k,t,o,rs,S⟩:=St.saga.1 S
 ((try clear F);have F:=S.fx)
 refine Wc F @t8.eq_1 ?_
 refine cI (a8D S.p1 hl) ?_
 clear S F
 rintro _ h ⟨q,rfl,S⟩
 refine Wa ?_
 exact hK _ _ ⟨q,rfl,(St.saga.2 ⟨k,t,o,rs,(by(exact PM S))⟩).p1⟩
theorem a6L(S:St h0 h (B5 p D u s::l))(hl:s.O.length<1000000):
  d8 Tryz.prog 59 [.pointer (some ⟨p,0,none⟩)] h fun v h'=>∃o,v= .pointer (some ⟨o,0,none⟩)∧St h0 h' (D8 o s.key s.O::B5 p D u s::l):=by
 refine EN i59.eq_1 fun K hK=>Wa ?_
 obtain⟨k,t,o,rs,S⟩:=St.saga.1 S
 ((try clear F);have F:=S.fx)
 refine Wc F @t8.eq_1 ?_
 refine cI (a5O S.p3 hl) ?_
 clear S F
 rintro _ h ⟨q,rfl,S⟩
 refine Wa ?_
 exact hK _ _ ⟨q,rfl,(St.saga.2 ⟨k,t,o,rs,(by(exact PM S))⟩).p1⟩
end
end
section
set_option maxHeartbeats 8000000
def Ret.zero:Ret:=⟨0,0,0,0,0,false,0,0,[],[],0,0,0,0⟩
def zR:i0:=⟨Ret.zero,none,0,none,0⟩
section
variable{h0 h:c9}{l:List HP}{p:Nat}{D:Cfg}{u:Value}{s:Sag}{U:List Unt}
theorem a8C{A:Option Addr}{n c:Nat}{xs:List Int}(S:St h0 h l)(ha:Arr i6 1 h A xs)(hn:n=xs.length)(hl:xs.length<1000000000):
  d8 Tryz.prog 171 [.slice A n c] h fun v h'=>St h0 h' (i4 i6 1 3 v xs::l):=
 (Q0 (T:=3) (sz:=1) (bytes:=8) i171.2 zEl (by omega) zEp rfl ha hn (a0q ha) (by omega) (by omega)).mono fun v h' ⟨ho,hf,_⟩=>S.ownNew hf ho
theorem a8F(x:i0)(ha:∀h',St h0 h' l→Arr i6 1 h' x.A x.r.us)(hb:∀h',St h0 h' l→Arr i6 1 h' x.B x.r.gs)(l1:x.r.us.length<1000000)(l2:x.r.gs.length<1000000)(S:St h0 h l):
  d8 Tryz.prog 111 [.agg x.enc.toArray] h fun v h'=>∃y:i0,v= .agg y.enc.toArray∧y.r=x.r∧St h0 h' (j2 y::l):=by
 refine EN i111.eq_1 fun K hK=>Wa ?_
 (revert S;(try clear F);refine AL fun b h S F=> ?_)
 refine Wa ?_
 (revert S;(try clear F);refine AL fun g h S F=> ?_)
 have hg0:=m8 (off:=8) S.p1
 have hg1:=m8 (off:=9) S.p1
 simp only[i0.enc,l_p,l_o]at hg0 hg1
 have hI:(fun h'=>rd1 h' (.pointer (some ⟨b,8,none⟩))=some (.slice x.A x.r.us.length x.c)∧rd1 h' (.pointer (some ⟨b,9,none⟩))=some (.slice x.B x.r.gs.length x.d)) h:=⟨hg0,hg1⟩
 have rx:∀K t,j8 (fun h'=>rd1 h' (.pointer (some ⟨b,8,none⟩))=some (.slice x.A x.r.us.length x.c)∧rd1 h' (.pointer (some ⟨b,9,none⟩))=some (.slice x.B x.r.gs.length x.d)) (fun h'=>rd1 h' (.pointer (some ⟨b,8,none⟩))) K t=K (.slice x.A x.r.us.length x.c):=fun K t=>rI (fun h' hh=>hh.1) h hI
 have ry:∀K t,j8 (fun h'=>rd1 h' (.pointer (some ⟨b,8,none⟩))=some (.slice x.A x.r.us.length x.c)∧rd1 h' (.pointer (some ⟨b,9,none⟩))=some (.slice x.B x.r.gs.length x.d)) (fun h'=>rd1 h' (.pointer (some ⟨b,9,none⟩))) K t=K (.slice x.B x.r.gs.length x.d):=fun K t=>rI (fun h' hh=>hh.2) h hI
 refine Wa ?_
 refine dI (fun h'=>rd1 h' (.pointer (some ⟨b,8,none⟩))=some (.slice x.A x.r.us.length x.c)∧rd1 h' (.pointer (some ⟨b,9,none⟩))=some (.slice x.B x.r.gs.length x.d)) hI ?_
 refine Wc rx ry ?_
 refine cI (a8C S (ha _ S.tl.tl) rfl (by omega)) ?_
 clear S F hg0 hg1 hI rx ry
 intro v h S
 obtain⟨A,c,rfl⟩:=S.sl
 refine⟨⟨m8 (off:=8) S.p2,m8 (off:=9) S.p2⟩,?_⟩
 refine Wa ?_
 refine cI (a8C S (hb _ S.tl.tl.tl) rfl (by omega)) ?_
 clear S
 intro v h S
 obtain⟨B,d,rfl⟩:=S.sl
 refine Wa ?_
 refine tS S.p3 rfl rfl (l_a rfl) ?_
 clear S
 intro h S
 rw[i0.enc]at S
 replace S:=S.nm
 refine Wa ?_
 refine tS S rfl rfl (l_a rfl) ?_
 clear S
 intro h S
 replace S:=S.nm
 ((try clear F);have F:=S.fx)
 refine Wb F ?_
 refine tS S.p3 rfl rfl (l_a rfl) ?_
 clear S F
 intro h S
 replace S:=S.nm
 ((try clear F);have F:=S.fx)
 refine Wb F ?_
 exact hK _ _ ⟨⟨x.r,A,c,B,d⟩,rfl,rfl,St.star.2 S.tl.tl.p1⟩
theorem a4i(S:St h0 h (B5 p D u s::l))(hl:s.R.length<100000)(hr:∀r∈s.R,r.us.length<1000000∧r.gs.length<1000000):
  d8 Tryz.prog 57 [.pointer (some ⟨p,0,none⟩)] h fun v h'=>St h0 h' (a3B v s.R::B5 p D u s::l):=by
 obtain⟨k,t,o,rs,S⟩:=St.saga.1 S
 obtain⟨vs,hvs,S⟩:=St.rmas.1 S.p4
 obtain⟨A,c,rfl⟩:=S.sl
 have hvl:vs.length=s.R.length:=by rw[←hvs,l_z]
 have hg:=m8 (off:=10) (S.perm (l':=_::(i4 i0.enc 14 136 (.slice A vs.length c) vs::(vs.map j2++t6 k s.K::H2 t s.T::D8 o s.key s.O::l))) (by exact(List.Perm.cons _ List.perm_middle).trans (List.Perm.swap _ _ _)))
 simp only[t8,l_p,l_o]at hg
 refine EN i57.eq_1 fun K hK=> ?_
 refine Wb hg ?_
 refine a0V zR i0.enc_len rfl S (by omega) (by omega) ?_
 intro w h' S'
 have hg':rd1 h' (.pointer (some ⟨p,10,none⟩))=some (.slice A vs.length c):=by
  have:=m8 (off:=10) (S'.perm (l':=d9 p (t8 D u k t o (.slice A vs.length c) (.slice none 0 0) s) 113::_) (by exact(List.Perm.cons _ (List.Perm.cons _ List.perm_middle)).trans (((List.Perm.cons _ (List.Perm.swap _ _ _))).trans (List.Perm.swap _ _ _))))
  simpa only[t8,l_p,l_o]using this
 clear S hg
 have S:=S'
 clear S'
 obtain⟨B,d,rfl⟩:=S.sl
 rw[G4]at S⊢
 refine Wb hg' ?_
 refine lI (fun ρ h'=>ρ 3= .slice B vs.length d∧ρ 17= .slice A vs.length c∧ρ 18= .int .i64 vs.length∧∃(i:Nat) (ys:List i0),ρ 19= .int .i64 i∧i≤vs.length∧ys.length=i∧ys.map i0.r=(vs.take i).map i0.r∧
  St h0 h' (i4 i0.enc 14 136 (.slice B vs.length d) (ys++List.replicate (vs.length-i) zR)::i4 i0.enc 14 136 (.slice A vs.length c) vs::(ys.map j2++(vs.map j2++(d9 p (t8 D u k t o (.slice A vs.length c) (.slice none 0 0) s) 113::t6 k s.K::H2 t s.T::D8 o s.key s.O::l))))) (fun ρ _=>vs.length-(iv (ρ 19)).toNat) ?_ ?_
 ·refine Wa ?_
  exact⟨0,[],rfl,by omega,rfl,rfl,S⟩
 clear S hg'
 rintro ρ h J hJ ⟨e3,e17,e18,i,ys,e19,hi,hyl,hyp,S⟩
 refine Wc e18 e19 ?_
 refine cD (fun hlt=> ?_) (fun hlt=> ?_)
 ·have hil:i<vs.length:=by omega
  have hmem:=l_v hil
  obtain⟨b1,o1,hA,q1⟩:=(S.p1.arr i0.enc_len).at hil
  have hin:∀{h':c9}{L:List HP},St h0 h' L→(∀x∈vs.map j2,x∈L)→Arr i6 1 h' vs[i].A vs[i].r.us∧Arr i6 1 h' vs[i].B vs[i].r.gs:=fun S hL=>K4 S (hL _ (a0I hmem))
  have hrl:=hr vs[i].r (by rw[←hvs];exact a0I hmem)
  have hwl:i<(ys++List.replicate (vs.length-i) zR).length:=by rw[l_m,G4];omega
  have hset:∀y:i0,(ys++List.replicate (vs.length-i) zR).set i y=(ys++ [y])++List.replicate (vs.length-(i+1)) zR:=fun y=>by
   rw[a6l _ _ (by omega),hyl,Nat.sub_self,show vs.length-i=vs.length-(i+1)+1 by omega,List.replicate_succ,l_h,l_q]
   rfl
  have htk:(vs.take (i+1)).map i0.r=(vs.take i).map i0.r++ [vs[i].r]:=by rw[l_t hil,L7];rfl
  generalize vs[i]=x at*
  refine We e17 e19 hA q1 ?_
  (revert S;(try clear F);refine AL fun g h S F=> ?_)
  refine Wd F @zR.eq_1 @Ret.zero.eq_1 ?_
  refine tS S rfl rfl (l_a rfl) ?_
  clear S F q1
  intro h S
  rw[i0.enc]at S
  replace S:=S.nm
  ((try clear F);have F:=S.fx)
  refine Wb F ?_
  rw[show [Value.int .i64 x.r.num,.int .i64 x.r.ord,.int .i64 x.r.rea,.int .i64 x.r.want,.int .i64 x.r.res,.bool x.r.cred,.int .i64 x.r.state,.int .i64 x.r.day,.slice x.A x.r.us.length x.c,.slice x.B x.r.gs.length x.d,.int .i64 x.r.worth,.int .i64 x.r.paid,.int .i64 x.r.credd,.int .i64 x.r.given]=x.enc from rfl]
  refine cI (a8F x (fun h' S=>(hin S fun z hz=>by simp only[l_e,l_y];exact .inr (.inr (.inr (.inr (.inl hz))))).1) (fun h' S=>(hin S fun z hz=>by simp only[l_e,l_y];exact .inr (.inr (.inr (.inr (.inl hz))))).2) hrl.1 hrl.2 S) ?_
  clear S F
  rintro _ h ⟨y,rfl,hy,S⟩
  obtain⟨b,rfl⟩:=S.p2.ownAt (by omega)
  refine Wc e3 e19 ?_
  refine v7 i0.enc_len (i:=i) (x:=y) S.p2 hwl rfl rfl rfl rfl ?_
  clear S
  intro h S
  rw[hset]at S
  refine Wb e19 ?_
  refine hJ _ _ ?_ ?_
  ·refine Wd e3 e17 e18 ?_
   refine⟨i+1,ys++ [y],rfl,by omega,by rw[l_m,hyl];rfl,by rw[htk,L7,hyp,←hy];rfl,?_⟩
   rw[L7,l_q (ys.map j2)]
   have S:St h0 h (_::_::j2 y::(ys.map j2++_)):=S.p2.tl.p1.p2.p2
   exact S.perm (.cons _ (.cons _ List.perm_middle.symm))
  ·refine Wb e19 ?_
   omega
 obtain rfl:i=vs.length:=by omega
 rw[Nat.sub_self,List.replicate_zero,D9]at S
 rw[C9]at hyp
 refine Wb e3 ?_
 refine hK _ _ (St.rmas.2 ⟨ys,by rw[hyp,hvs],?_⟩)
 have e1:((ys.map j2)++((vs.map j2)++([d9 p (t8 D u k t o (.slice A vs.length c) (.slice none 0 0) s) 113,t6 k s.K,H2 t s.T,D8 o s.key s.O]++l))).Perm ((vs.map j2)++((ys.map j2)++([d9 p (t8 D u k t o (.slice A vs.length c) (.slice none 0 0) s) 113,t6 k s.K,H2 t s.T,D8 o s.key s.O]++l))):=List.perm_append_comm_assoc _ _ _
 have e2:((ys.map j2)++([d9 p (t8 D u k t o (.slice A vs.length c) (.slice none 0 0) s) 113,t6 k s.K,H2 t s.T,D8 o s.key s.O]++l)).Perm ([d9 p (t8 D u k t o (.slice A vs.length c) (.slice none 0 0) s) 113,t6 k s.K,H2 t s.T,D8 o s.key s.O]++((ys.map j2)++l)):=List.perm_append_comm_assoc _ _ _
 have S1:=S.swap.perm (l':=_::((vs.map j2)++([d9 p (t8 D u k t o (.slice A vs.length c) (.slice none 0 0) s) 113,t6 k s.K,H2 t s.T,D8 o s.key s.O]++(i4 i0.enc 14 136 (.slice B vs.length d) ys::((ys.map j2)++l)))))
  (List.Perm.cons _ ((List.Perm.cons _ (e1.trans (List.Perm.append_left _ e2))).trans (List.perm_middle.symm.trans (List.Perm.append_left _ List.perm_middle.symm))))
 have S2:=St.rmas.2 ⟨vs,hvs,S1⟩
 have S3:St h0 h (a3B _ s.R::d9 p _ _::t6 k s.K::H2 t s.T::D8 o s.key s.O::_):=S2
 have S4:=St.saga.2 ⟨k,t,o,_,S3.p4.p4.p4.p4⟩
 exact S4.swap.perm (List.Perm.cons _ List.perm_middle.symm)
end
end
section
set_option maxHeartbeats 4000000
def a7K(a n of:Int):Int×Int:=if a<0∨1125899906842624<a then(0,9)else if of<1∨n<0∨of<n then(0,1)else(a*n/of,0)
theorem b7J(a n of:Int)(ha:I64 a)(hn:I64 n)(ho:I64 of)(h:c9):d8 Tryz.prog 214 [.int .i64 a,.int .i64 n,.int .i64 of] h fun v h'=>v= .tuple #[.int .i64 (a7K a n of).1,.int .i64 (a7K a n of).2]∧h'=h:=by
 obtain⟨ha1,ha2⟩:=ha
 obtain⟨hn1,hn2⟩:=hn
 obtain⟨ho1,ho2⟩:=ho
 have hdef:a7K a n of=if a<0∨1125899906842624<a then(0,9)else if of<1∨n<0∨of<n then(0,1)else(a*n/of,0):=rfl
 by_cases c1:a<0
 ·rw[if_pos (.inl c1)]at hdef
  rw[hdef]
  refine EN i214.eq_1 fun K hK=> ?_
  refine Wb c1 ?_
  exact hK _ _ ⟨rfl,rfl⟩
 by_cases c2:1125899906842624<a
 ·rw[if_pos (.inr c2)]at hdef
  rw[hdef]
  refine EN i214.eq_1 fun K hK=> ?_
  refine Wc c1 c2 ?_
  exact hK _ _ ⟨rfl,rfl⟩
 rw[if_neg (fun h=>h.elim c1 c2)]at hdef
 by_cases c3:of<1
 ·rw[if_pos (.inl c3)]at hdef
  rw[hdef]
  refine EN i214.eq_1 fun K hK=> ?_
  refine Wd c1 c2 c3 ?_
  exact hK _ _ ⟨rfl,rfl⟩
 by_cases c4:n<0
 ·rw[if_pos (.inr (.inl c4))]at hdef
  rw[hdef]
  refine EN i214.eq_1 fun K hK=> ?_
  refine We c1 c2 c3 c4 ?_
  exact hK _ _ ⟨rfl,rfl⟩
 by_cases c5:of<n
 ·rw[if_pos (.inr (.inr c5))]at hdef
  rw[hdef]
  refine EN i214.eq_1 fun K hK=> ?_
  refine Wf c1 c2 c3 c4 c5 ?_
  exact hK _ _ ⟨rfl,rfl⟩
 rw[if_neg (fun h=>h.elim c3 (fun h=>h.elim c4 c5))]at hdef
 rw[hdef]
 obtain⟨x,rfl⟩:=l_u (show 0≤a by omega)
 obtain⟨y,rfl⟩:=l_u (show 0≤n by omega)
 obtain⟨z,rfl⟩:=l_u (show 0≤of by omega)
 have hxy:x*y≤x*z:=Nat.mul_le_mul_left _ (by omega)
 have hq:x*y/z≤x:=Nat.div_le_of_le_mul (by rw[a0w z x];exact hxy)
 have hhi:x*y/18446744073709551616<z:=by
  rw[Nat.div_lt_iff_lt_mul (by decide)]
  have:x*z≤1125899906842624*z:=a1n _ (by omega)
  omega
 have hdm:x*y/18446744073709551616*18446744073709551616+x*y%18446744073709551616=x*y:=by omega
 refine EN i214.eq_1 fun K hK=> ?_
 refine Wf c1 c2 c3 c4 c5 ?_
 refine cI (b0Y x y (by omega) (by omega) _) ?_
 rintro _ _ ⟨rfl,rfl⟩
 refine Wa ?_
 refine cI (b0V _ _ z hhi (by omega) (Nat.mod_lt _ (by decide)) _) ?_
 rintro _ _ ⟨rfl,rfl⟩
 rw[hdm]
 refine Wa ?_
 refine hK _ _ ⟨?_,rfl⟩
 have e:(x:Int)*y/z=((x*y/z:Nat):Int):=by rw[Int.natCast_ediv,Int.natCast_mul]
 have hqx:((x*y/z:Nat):Int)≤x:=Int.ofNat_le.2 hq
 have hq0:(0:Int)≤((x*y/z:Nat):Int):=Int.natCast_nonneg _
 rw[e]
 generalize ((x*y/z:Nat):Int)=w at*
 rw[u5 (by omega) (by omega)]
theorem a8E(a k:Int)(ha:I64 a)(hk:I64 k)(h:c9):d8 Tryz.prog 174 [.int .i64 a,.int .i64 k] h fun v h'=>v= .tuple #[.int .i64 (a7K a k 10000).1,.int .i64 (a7K a k 10000).2]∧h'=h:=by
 obtain⟨hk1,hk2⟩:=id hk
 refine EN i174.eq_1 fun K hK=>Wa ?_
 refine cI (b7J a k 10000 ha hk ⟨by decide,by decide⟩ _) ?_
 rintro _ _ ⟨rfl,rfl⟩
 refine Wa ?_
 exact hK _ _ ⟨rfl,rfl⟩
end
section
set_option maxHeartbeats 4000000
def isR(n:Int):Prop:=0≤n∧n<4
def Pol.feeR(p:Pol)(r:Int):Int:=if r=0 then p.f0 else if r=1 then p.f1 else if r=2 then p.f2 else p.f3
def Pol.gsh(p:Pol)(g:Int):Int:=if g=0 then p.s0 else if g=1 then p.s1 else if g=2 then p.s2 else p.s3
def Pol.gto(p:Pol)(g:Int):Int:=if g=0 then p.t0 else if g=1 then p.t1 else if g=2 then p.t2 else p.t3
def wrt(p:Pol)(sh r g:Int):Int:=sh*p.gsh g/10000-sh*p.gsh g/10000*p.feeR r/10000
theorem b9j{n:Int}(h:isR n):n=0∨n=1∨n=2∨n=3:=by obtain⟨h1,h2⟩:=h;omega
theorem a6t{p:Pol}(hp:p.right)(r:Int):U2 (p.feeR r):=by
 obtain⟨⟨h0,h1,h2,h3⟩,_⟩:=hp
 unfold Pol.feeR
 (repeat' split)<;>assumption
theorem b0k{p:Pol}(hp:p.right)(g:Int):U2 (p.gsh g):=by
 obtain⟨_,⟨⟨h0,_⟩,⟨h1,_⟩,⟨h2,_⟩,⟨h3,_⟩⟩,_⟩:=hp
 unfold Pol.gsh
 (repeat' split)<;>assumption
theorem a3n{a n:Int}(ha:0≤a)(hn:U2 n):0≤a*n/10000∧a*n/10000≤a:=by
 obtain⟨h1,h2⟩:=hn
 have e1:0≤a*n:=Int.mul_nonneg ha h1
 have e2:a*n≤a*10000:=Int.mul_le_mul_of_nonneg_left h2 ha
 omega
theorem b2e{a n:Int}(ha:0≤a)(ha2:a≤1125899906842624)(hn:U2 n):a7K a n 10000=(a*n/10000,0):=by
 obtain⟨h1,h2⟩:=hn
 rw[a7K,if_neg (by omega),if_neg (by omega)]
theorem a3s{p:Pol}{sh r g:Int}(hp:p.right)(h0:0≤sh):0≤wrt p sh r g∧wrt p sh r g≤sh:=by
 have h1:=a3n h0 (b0k hp g)
 have h2:=a3n h1.1 (a6t hp r)
 unfold wrt
 omega
theorem a3o(p:Pol)(h:c9):d8 Tryz.prog 113 [.agg p.enc.toArray] h fun v h'=>v= .bool (dcd p.right)∧Fr h h' []:=by
 have S:=St.nil h
 refine EN i113.eq_1 fun K hK=>Wa ?_
 (revert S;(try clear F);refine AL fun b h S F=> ?_)
 refine Wc F @Pol.enc.eq_1 ?_
 (revert S;(try clear F);refine AL fun g h S F=> ?_)
 have S:=S.cellOwn (enc:=Pol.enc) (sz:=16) (ys:=[p]) Pol.enc_len rfl (by simp)
 clear F
 refine Wa ?_
 refine cI (b0Z (xs:=[p]) (S.arr Pol.enc_len) rfl (by simp)) ?_
 rintro _ h' ⟨rfl,hf⟩
 refine Wa ?_
 refine hK _ _ ⟨?_,(S.frame hf).fr⟩
 by_cases hr:p.right
 ·rw[dT hr,dT ⟨by simp,by simpa using hr⟩]
 ·rw[dF hr,dF fun h=>hr (h.2 p (by simp))]
theorem b0A(n:Int)(h:c9):d8 Tryz.prog 173 [.int .i64 n] h fun v h'=>v= .bool (dcd (isR n))∧h'=h:=by
 by_cases h1:0≤n
 ·by_cases h2:n<4
  ·refine EN i173.eq_1 fun K hK=> ?_
   refine Wc h1 h2 ?_
   exact hK _ _ ⟨by rw[dT ⟨h1,h2⟩],rfl⟩
  ·refine EN i173.eq_1 fun K hK=> ?_
   refine Wc h1 h2 ?_
   exact hK _ _ ⟨by rw[dF fun h=>h2 h.2],rfl⟩
 ·refine EN i173.eq_1 fun K hK=> ?_
  refine Wb h1 ?_
  exact hK _ _ ⟨by rw[dF fun h=>h1 h.1],rfl⟩
theorem c3B(p:Pol)(sum r:Int)(hp:p.right)(hr:isR r)(h0:0≤sum)(h1:sum≤1125899906842624)(h:c9):d8 Tryz.prog 175 [.agg p.enc.toArray,.int .i64 sum,.int .i64 r] h fun v h'=>v= .tuple #[.int .i64 (sum*p.feeR r/10000),.int .i64 0]∧Fr h h' []:=by
 have hf:=a6t hp r
 have hv:=b2e h0 h1 hf
 have S:=St.nil h
 refine EN i175.eq_1 fun K hK=>Wa ?_
 (revert S;(try clear F);refine AL fun b h S F=> ?_)
 refine Wc F @Pol.enc.eq_1 ?_
 refine cI (a3o p _) ?_
 rintro _ h ⟨rfl,f1⟩
 have S:=S.frame f1
 rw[dT hp]
 refine Wa ?_
 refine cI (b0A r _) ?_
 rintro _ _ ⟨rfl,rfl⟩
 rw[dT hr]
 ((try clear F);have F:=S.fx)
 rcases b9j hr with rfl|rfl|rfl|rfl<;>
 ·refine Wc F @Pol.enc.eq_1 ?_
  refine cI (a8E _ _ ⟨by omega,by omega⟩ ⟨?_,?_⟩ _) ?_
  ·have:=hf.1;simp only[Pol.feeR]at this;simp at this;omega
  ·have:=hf.2;simp only[Pol.feeR]at this;simp at this;omega
  rintro _ _ ⟨rfl,rfl⟩
  simp only[Pol.feeR]at hv⊢
  simp at hv⊢
  rw[hv]
  refine Wa ?_
  exact hK _ _ ⟨rfl,S.fr⟩
theorem b1d(p:Pol)(sh r g:Int)(hp:p.right)(hr:isR r)(hg:isR g)(h0:0≤sh)(h1:sh≤1125899906842624)(h:c9):d8 Tryz.prog 117 [.agg p.enc.toArray,.int .i64 sh,.int .i64 r,.int .i64 g] h fun v h'=>v= .tuple #[.int .i64 (wrt p sh r g),.int .i64 0]∧Fr h h' []:=by
 have hf:=b0k hp g
 have hv:=b2e h0 h1 hf
 have hl:=a3n h0 hf
 have hl2:=a3n hl.1 (a6t hp r)
 have S:=St.nil h
 refine EN i117.eq_1 fun K hK=>Wa ?_
 (revert S;(try clear F);refine AL fun b h S F=> ?_)
 refine Wc F @Pol.enc.eq_1 ?_
 refine cI (a3o p _) ?_
 rintro _ h ⟨rfl,f1⟩
 have S:=S.frame f1
 rw[dT hp]
 refine Wa ?_
 refine cI (b0A r _) ?_
 rintro _ _ ⟨rfl,rfl⟩
 rw[dT hr]
 refine Wa ?_
 refine cI (b0A g _) ?_
 rintro _ _ ⟨rfl,rfl⟩
 rw[dT hg]
 have hgo:∀(x:Int) (h:c9),x=p.gsh g→d8 Tryz.prog 174 [.int .i64 sh,.int .i64 x] h fun v h'=>v= .tuple #[.int .i64 (sh*p.gsh g/10000),.int .i64 0]∧h'=h:=fun x h e=>by
  subst e
  have:=a8E sh (p.gsh g) ⟨by omega,by omega⟩ ⟨by have:=hf.1;omega,by have:=hf.2;omega⟩ h
  rwa[hv]at this
 ((try clear F);have F:=S.fx)
 have fin:∀(x:Int),x=p.gsh g→b1p Tryz.prog 174 [.int .i64 sh,.int .i64 x] h (fun v h'=>True) ⟨⟩ ⟨⟩→True:=fun _ _ _=>trivial
 clear fin
 rcases b9j hg with rfl|rfl|rfl|rfl<;>
 ·refine Wc F @Pol.enc.eq_1 ?_
  refine cI (hgo _ _ (by simp[Pol.gsh])) ?_
  rintro _ _ ⟨rfl,rfl⟩
  refine Wc F @Pol.enc.eq_1 ?_
  refine cI (c3B p _ r hp hr hl.1 (by omega) _) ?_
  rintro _ h ⟨rfl,f2⟩
  refine Wa ?_
  exact hK _ _ ⟨rfl,(S.frame f2).fr⟩
end
section
set_option maxHeartbeats 8000000
theorem b6f(p:Pol)(sh r g:Int)(hp:p.right)(hr:isR r)(hg:isR g)(h0:0≤sh)(h1:sh≤1125899906842624)(h:c9):d8 Tryz.prog 170 [.agg p.enc.toArray,.int .i64 sh,.int .i64 r,.int .i64 g] h fun v h'=>v= .int .i64 (wrt p sh r g)∧Fr h h' []:=by
 have hf:=b0k hp g
 have hf2:=a6t hp r
 have hl:=a3n h0 hf
 have hl2:=a3n hl.1 hf2
 have hgo:∀(a n x:Int) (h:c9),x=n→U2 n→0≤a→a≤1125899906842624→d8 Tryz.prog 213 [.int .i64 a,.int .i64 x,.int .i64 10000] h fun v h'=>v= .tuple #[.int .i64 (a*n/10000),.int .i64 0]∧h'=h:=fun a n x h e hn ha hb=>by
  subst e
  obtain⟨h1,h2⟩:=hn
  obtain⟨u,rfl⟩:=l_u ha
  obtain⟨w,rfl⟩:=l_u h1
  have:=b7U u w 10000 (by omega) (by omega) (by decide) (by decide) h
  rwa[Int.natCast_ediv,Int.natCast_mul]at this
 have S:=St.nil h
 refine EN i170.eq_1 fun K hK=>Wa ?_
 (revert S;(try clear F);refine AL fun b h S F=> ?_)
 rcases b9j hg with rfl|rfl|rfl|rfl<;>
 ·refine Wc F @Pol.enc.eq_1 ?_
  refine cI (hgo sh (p.gsh _) _ _ (by simp[Pol.gsh]) hf h0 h1) ?_
  rintro _ _ ⟨rfl,rfl⟩
  rcases b9j hr with rfl|rfl|rfl|rfl<;>
  ·refine Wc F @Pol.enc.eq_1 ?_
   refine cI (hgo _ (p.feeR _) _ _ (by simp[Pol.feeR]) hf2 hl.1 (by omega)) ?_
   rintro _ _ ⟨rfl,rfl⟩
   refine Wa ?_
   exact hK _ _ ⟨rfl,S.fr⟩
theorem c0t(x:i0)(h:c9):d8 Tryz.prog 120 [.agg x.enc.toArray] h fun v h'=>v= .bool (dcd (a0S x.r.worth∧a0S x.r.paid∧a0S x.r.credd∧a0S x.r.given))∧Fr h h' []:=by
 have S:=St.nil h
 have z4:∀z:Value,n8 [z] 4=[z,z,z,z]:=fun _=>rfl
 refine EN i120.eq_1 fun K hK=>Wa ?_
 (revert S;(try clear F);refine AL fun b h S F=> ?_)
 refine Wd F @i0.enc.eq_1 z4 ?_
 (revert S;(try clear F);refine AL fun g h S F=> ?_)
 refine Wb F ?_
 by_cases a1:x.r.worth<0
 ·(refine B7 5 ?_);(refine Wc F a1 ?_);exact hK _ _ ⟨by rw[dF fun h=>by have:=h.1.1;omega],S.fr⟩
 by_cases a2:1125899906842624<x.r.worth
 ·(refine B7 5 ?_);(refine Wd F a1 a2 ?_);exact hK _ _ ⟨by rw[dF fun h=>by have:=h.1.2;omega],S.fr⟩
 by_cases b1:x.r.paid<0
 ·(refine B7 5 ?_);(refine We F a1 a2 b1 ?_);exact hK _ _ ⟨by rw[dF fun h=>by have:=h.2.1.1;omega],S.fr⟩
 by_cases b2:1125899906842624<x.r.paid
 ·(refine B7 5 ?_);(refine Wf F a1 a2 b1 b2 ?_);exact hK _ _ ⟨by rw[dF fun h=>by have:=h.2.1.2;omega],S.fr⟩
 by_cases c1:x.r.credd<0
 ·(refine B7 5 ?_);(refine Wg F a1 a2 b1 b2 c1 ?_);exact hK _ _ ⟨by rw[dF fun h=>by have:=h.2.2.1.1;omega],S.fr⟩
 by_cases c2:1125899906842624<x.r.credd
 ·(refine B7 5 ?_);(refine Wh F a1 a2 b1 b2 c1 c2 ?_);exact hK _ _ ⟨by rw[dF fun h=>by have:=h.2.2.1.2;omega],S.fr⟩
 by_cases d1:x.r.given<0
 ·(refine B7 5 ?_);(refine Wi F a1 a2 b1 b2 c1 c2 d1 ?_);exact hK _ _ ⟨by rw[dF fun h=>by have:=h.2.2.2.1;omega],S.fr⟩
 by_cases d2:1125899906842624<x.r.given
 ·(refine B7 5 ?_);(refine Wi F a1 a2 b1 b2 c1 c2 (Pc d1 d2) ?_);exact hK _ _ ⟨by rw[dF fun h=>by have:=h.2.2.2.2;omega],S.fr⟩
 (refine B7 5 ?_);(refine Wi F a1 a2 b1 b2 c1 c2 (Pc d1 d2) ?_)
 exact hK _ _ ⟨by rw[dT ⟨⟨by omega,by omega⟩,⟨by omega,by omega⟩,⟨by omega,by omega⟩,by omega,by omega⟩],S.fr⟩
end
section
set_option maxHeartbeats 8000000
theorem b7s{h0:c9}(x:i0)(ha:Arr i6 1 h0 x.A x.r.us)(hb:Arr i6 1 h0 x.B x.r.gs)(l1:x.r.us.length<1000000)(l2:x.r.gs.length<1000000):
  d8 Tryz.prog 119 [.agg x.enc.toArray] h0 fun v h'=>v= .bool (dcd (Q6 x.r.us x.r.gs))∧Fr h0 h' []:=by
 have S:=St.nil h0
 have ha':∀{h':c9}{l:List HP},St h0 h' l→Arr i6 1 h' x.A x.r.us:=fun S=>ha.fr S.fr (by simp)
 have hb':∀{h':c9}{l:List HP},St h0 h' l→Arr i6 1 h' x.B x.r.gs:=fun S=>hb.fr S.fr (by simp)
 refine EN i119.eq_1 fun K hK=>Wa ?_
 (revert S;(try clear F);refine AL fun b h S F=> ?_)
 refine Wc F @i0.enc.eq_1 ?_
 refine cI (F0 _ _ _ _) ?_
 rintro _ _ ⟨rfl,rfl⟩
 by_cases n1:btw x.r.us.length 1 200
 case neg=>
  rw[dF n1]
  refine Wa ?_
  exact hK _ _ ⟨by rw[dF fun h=>n1 h.1],S.fr⟩
 rw[dT n1]
 by_cases n2:(x.r.gs.length:Int)=x.r.us.length
 case neg=>
  refine Wd F @i0.enc.eq_1 n2 ?_
  exact hK _ _ ⟨by rw[dF fun h=>by have:=h.2.1;omega],S.fr⟩
 refine Wd F @i0.enc.eq_1 n2 ?_
 refine lI (fun ρ h'=>ρ 1= .pointer (some ⟨b,0,none⟩)∧ρ 20= .slice x.A x.r.us.length x.c∧ρ 21= .int .i64 x.r.us.length∧∃i:Nat,ρ 22= .int .i64 i∧i≤x.r.us.length∧(∀k,k<i→a4e x.r.us x.r.gs k)∧St h0 h' [d9 b x.enc 136]) (fun ρ _=>x.r.us.length-(iv (ρ 22)).toNat) ?_ ?_
 ·refine Wa ?_
  exact⟨0,rfl,by omega,fun k hk=>absurd hk (by omega),S⟩
 clear S F
 rintro ρ h J hJ ⟨e1,e20,e21,i,e22,hi,hok,S⟩
 refine Wc e21 e22 ?_
 refine cD (fun hlt=> ?_) (fun hlt=> ?_)
 ·have hil:i<x.r.us.length:=by omega
  obtain⟨b1,o1,hA1,q1⟩:=(ha' S).at hil
  obtain⟨b2,o2,hA2,q2⟩:=(hb' S).at (i:=i) (by omega)
  have q1:=rP0 q1 (by omega)
  have q2:=rP0 q2 (by omega)
  simp only[i6,l_o,m9]at q1 q2
  rw[←l7]at q1 q2
  have hbad:¬a4e x.r.us x.r.gs i→¬Q6 x.r.us x.r.gs:=fun hn h=>hn (h.2.2 i hil)
  have hgo:=fun hx=>b2I hok (i:=i) hx
  have hU:a4e x.r.us x.r.gs i↔(btw (x.r.us.getD i 0) 0 199∧(0<i→x.r.us.getD (i-1) 0<x.r.us.getD i 0)∧btw (x.r.gs.getD i 0) (-1) 4):=Iff.rfl
  ((try clear F);have F:=S.fx)
  refine Wf e20 e22 hA1 q1 @m9 ?_
  refine cI (F0 _ _ _ _) ?_
  rintro _ _ ⟨rfl,rfl⟩
  by_cases c1:btw (x.r.us.getD i 0) 0 199
  case neg=>
   rw[dF c1]
   refine Wa ?_
   exact hK _ _ ⟨by rw[dF (hbad fun h=>c1 (hU.1 h).1)],S.fr⟩
  rw[dT c1]
  by_cases c2:0<i
  ·obtain⟨j,rfl⟩:∃j,i=j+1:=⟨i-1,by omega⟩
   obtain⟨b3,o3,hA3,q3⟩:=(ha' S).at (i:=j) (by omega)
   rw[hA1]at hA3
   cases hA3
   have q3:=rP0 q3 (by omega)
   simp only[i6,l_o,m9]at q3
   rw[←l7]at q3
   have hj1:((j+1:Nat):Int)-1=(j:Int):=by omega
   have hj0:(0:Int)<((j+1:Nat):Int):=by omega
   rw[a4E]at hU
   by_cases c3:x.r.us.getD (j+1) 0≤x.r.us.getD j 0
   ·refine Wi e1 F @i0.enc.eq_1 hA1 hj0 hj1 q3 (Pc c3 @m9) ?_
    exact hK _ _ ⟨by rw[dF (hbad fun h=>by have:=(hU.1 h).2.1 (by omega);omega)],S.fr⟩
   refine Wi e1 F @i0.enc.eq_1 hA1 hA2 hj0 hj1 (Pe q2 q3 c3 @m9) ?_
   refine cI (F0 _ _ _ _) ?_
   rintro _ _ ⟨rfl,rfl⟩
   by_cases c4:btw (x.r.gs.getD (j+1) 0) (-1) 4
   case neg=>
    rw[dF c4]
    refine Wa ?_
    exact hK _ _ ⟨by rw[dF (hbad fun h=>c4 (hU.1 h).2.2)],S.fr⟩
   rw[dT c4]
   refine Wb e22 ?_
   refine hJ _ _ ?_ ?_
   ·refine We e1 e20 e21 hA1 ?_
    exact⟨j+1+1,rfl,by omega,hgo (hU.2 ⟨c1,fun _=>by omega,c4⟩),S⟩
   ·refine Wb e22 ?_
    omega
  ·obtain rfl:i=0:=by omega
   rw[H8]at q1 q2
   refine Wg e1 F @i0.enc.eq_1 hA2 q2 @m9 ?_
   refine cI (F0 _ _ _ _) ?_
   rintro _ _ ⟨rfl,rfl⟩
   by_cases c4:btw (x.r.gs.getD 0 0) (-1) 4
   case neg=>
    rw[dF c4]
    refine Wa ?_
    exact hK _ _ ⟨by rw[dF (hbad fun h=>c4 (hU.1 h).2.2)],S.fr⟩
   rw[dT c4]
   refine Wb e22 ?_
   refine hJ _ _ ?_ ?_
   ·refine We e1 e20 e21 hA1 ?_
    exact⟨1,rfl,by omega,hgo (hU.2 ⟨c1,fun h=>absurd h (by omega),c4⟩),S⟩
   ·refine Wb e22 ?_
    omega
 obtain rfl:i=x.r.us.length:=by omega
 refine Wa ?_
 exact hK _ _ ⟨by rw[dT ⟨n1,by omega,hok⟩],S.fr⟩
theorem a5R{h0:c9}(x:i0)(ha:Arr i6 1 h0 x.A x.r.us)(hb:Arr i6 1 h0 x.B x.r.gs)(l1:x.r.us.length<1000000)(l2:x.r.gs.length<1000000):
  d8 Tryz.prog 78 [.agg x.enc.toArray] h0 fun v h'=>v= .bool (dcd x.r.right)∧Fr h0 h' []:=by
 have S:=St.nil h0
 refine EN i78.eq_1 fun K hK=>Wa ?_
 (revert S;(try clear F);refine AL fun b h S F=> ?_)
 refine Wc F @i0.enc.eq_1 ?_
 refine cI (F0 _ _ _ _) ?_
 rintro _ _ ⟨rfl,rfl⟩
 by_cases p0:btw x.r.num 1 100
 case neg=>
  rw[dF p0]
  refine Wc F @i0.enc.eq_1 ?_
  exact hK _ _ ⟨by rw[dF fun h=>p0 h.1],S.fr⟩
 rw[dT p0]
 refine Wc F @i0.enc.eq_1 ?_
 refine cI (F0 _ _ _ _) ?_
 rintro _ _ ⟨rfl,rfl⟩
 by_cases p1:btw x.r.ord 0 19
 case neg=>
  rw[dF p1]
  refine Wc F @i0.enc.eq_1 ?_
  exact hK _ _ ⟨by rw[dF fun h=>p1 h.2.1],S.fr⟩
 rw[dT p1]
 refine Wc F @i0.enc.eq_1 ?_
 refine cI (F0 _ _ _ _) ?_
 rintro _ _ ⟨rfl,rfl⟩
 by_cases p2:btw x.r.rea 0 3
 case neg=>
  rw[dF p2]
  refine Wc F @i0.enc.eq_1 ?_
  exact hK _ _ ⟨by rw[dF fun h=>p2 h.2.2.1],S.fr⟩
 rw[dT p2]
 refine Wc F @i0.enc.eq_1 ?_
 refine cI (F0 _ _ _ _) ?_
 rintro _ _ ⟨rfl,rfl⟩
 by_cases p3:btw x.r.want 0 1000
 case neg=>
  rw[dF p3]
  refine Wc F @i0.enc.eq_1 ?_
  exact hK _ _ ⟨by rw[dF fun h=>p3 h.2.2.2.1],S.fr⟩
 rw[dT p3]
 refine Wc F @i0.enc.eq_1 ?_
 refine cI (F0 _ _ _ _) ?_
 rintro _ _ ⟨rfl,rfl⟩
 by_cases p4:btw x.r.res (-1) 199
 case neg=>
  rw[dF p4]
  refine Wc F @i0.enc.eq_1 ?_
  exact hK _ _ ⟨by rw[dF fun h=>p4 h.2.2.2.2.1],S.fr⟩
 rw[dT p4]
 refine Wc F @i0.enc.eq_1 ?_
 refine cI (F0 _ _ _ _) ?_
 rintro _ _ ⟨rfl,rfl⟩
 by_cases p5:btw x.r.state 1 9
 case neg=>
  rw[dF p5]
  refine Wc F @i0.enc.eq_1 ?_
  exact hK _ _ ⟨by rw[dF fun h=>p5 h.2.2.2.2.2.1],S.fr⟩
 rw[dT p5]
 refine Wc F @i0.enc.eq_1 ?_
 refine cI (F0 _ _ _ _) ?_
 rintro _ _ ⟨rfl,rfl⟩
 by_cases p6:btw x.r.day 0 100000
 case neg=>
  rw[dF p6]
  refine Wc F @i0.enc.eq_1 ?_
  exact hK _ _ ⟨by rw[dF fun h=>p6 h.2.2.2.2.2.2.1],S.fr⟩
 rw[dT p6]
 refine Wc F @i0.enc.eq_1 ?_
 rw[show [Value.int .i64 x.r.num,.int .i64 x.r.ord,.int .i64 x.r.rea,.int .i64 x.r.want,.int .i64 x.r.res,.bool x.r.cred,.int .i64 x.r.state,.int .i64 x.r.day,.slice x.A x.r.us.length x.c,.slice x.B x.r.gs.length x.d,.int .i64 x.r.worth,.int .i64 x.r.paid,.int .i64 x.r.credd,.int .i64 x.r.given]=x.enc from rfl]
 refine cI (b7s x (ha.fr S.fr (by simp)) (hb.fr S.fr (by simp)) l1 l2) ?_
 rintro _ h ⟨rfl,f1⟩
 have S:=S.frame f1
 by_cases p7:Q6 x.r.us x.r.gs
 case neg=>
  rw[dF p7]
  refine Wa ?_
  exact hK _ _ ⟨by rw[dF fun h=>p7 h.2.2.2.2.2.2.2.1],S.fr⟩
 rw[dT p7]
 ((try clear F);have F:=S.fx)
 refine Wc F @i0.enc.eq_1 ?_
 rw[show [Value.int .i64 x.r.num,.int .i64 x.r.ord,.int .i64 x.r.rea,.int .i64 x.r.want,.int .i64 x.r.res,.bool x.r.cred,.int .i64 x.r.state,.int .i64 x.r.day,.slice x.A x.r.us.length x.c,.slice x.B x.r.gs.length x.d,.int .i64 x.r.worth,.int .i64 x.r.paid,.int .i64 x.r.credd,.int .i64 x.r.given]=x.enc from rfl]
 refine cI (c0t x _) ?_
 rintro _ h ⟨rfl,f1⟩
 have S:=S.frame f1
 refine Wa ?_
 refine hK _ _ ⟨?_,S.fr⟩
 by_cases p8:a0S x.r.worth∧a0S x.r.paid∧a0S x.r.credd∧a0S x.r.given
 ·rw[dT p8,dT ⟨p0,p1,p2,p3,p4,p5,p6,p7,p8⟩]
 ·rw[dF p8,dF fun h=>p8 h.2.2.2.2.2.2.2.2]
end
end Go.Proofs.YtjagmebglhbdkaaGreat.MX
