import Derived.Test.YtjagmebglhbdkaaGreatK44
import Derived.Test.YtjagmebglhbdkaaGreatK24
import Derived.Test.YtjagmebglhbdkaaGreatK30
import Derived.Test.YtjagmebglhbdkaaGreatK35
namespace Go.Proofs.YtjagmebglhbdkaaGreat.MX
open Go Go.Proofs
set_option linter.unusedSimpArgs false
set_option linter.unusedVariables false
section
set_option maxHeartbeats 16000000
theorem c1U{D C:Cfg}(hp:D.pu=C.pu):D.ps=C.ps∧D.ss=C.ss∧D.os.map Odr.day=C.os.map Odr.day∧D.os.length=C.os.length:=by
 have h1:D.ps=C.ps:=congrArg Prod.fst hp
 have h2:D.ss=C.ss:=congrArg (fun x=>x.2.1) hp
 have h3:D.os.map Odr.pu=C.os.map Odr.pu:=congrArg (fun x=>x.2.2) hp
 refine⟨h1,h2,?_,?_⟩
 ·have:=congrArg (List.map Prod.fst) h3
  simpa[List.map_map,Function.comp_def,Odr.pu]using this
 ·have:=congrArg List.length h3
  simpa using this
theorem b9T{D C:Cfg}(hp:D.pu=C.pu)(U:List Unt)(s:Sag)(c:Cmd):O8 D U s c=O8 C U s c:=by
 obtain⟨h1,h2,h3,h4⟩:=c1U hp
 have hr:∀w,E2 D.ps D.os D.ss U w c=E2 C.ps C.os C.ss U w c:=fun w=>by
  have ha:N2 D.ps D.os U w.s c=N2 C.ps C.os U w.s c:=by
   unfold N2
   have:F8 D.ps D.os U w.s c=F8 C.ps C.os U w.s c:=by
    funext u
    unfold F8
    rw[←a0N,←a0N,h1,h3]
   rw[this]
  unfold E2
  rw[ha,h1,h2,h4]
 unfold O8 doP
 rw[hr,h1,h2]
section
variable{h0 h:c9}{l:List HP}{L:U1}{C D:Cfg}{U:List Unt}{m:Nat}{Au Bu:Option Addr}{cu du p:Nat}{s:Sag}
structure Pl(C:Cfg)(U:List Unt)(s:Sag)(m:Nat):Prop where
 wf:s.wf U m
 inv:Inv C U ⟨s,[]⟩ 1000 0
 key:∃f,a7S f s
theorem Pl.keys(P:Pl C U s m):a6o s:=P.key.choose_spec.keys
theorem Pl.step(hD:Stc C U)(P:Pl C U s m)(c:Cmd):O8 C U s c=a4H C U s c∧Pl C U (O8 C U s c).2.2.2 (m+201):=by
 obtain⟨f,hf⟩:=P.key
 exact⟨c2i hD P.inv P.wf,c2l hD.ul P.wf,b9U hD P.inv P.wf,_,(b6M hf).2⟩
theorem b6F{C:Cfg}:a7S (fun _=>none) (F7 C):=⟨⟨fun m hm=>absurd hm l_d,List.Pairwise.nil⟩,fun k m h=>(nomatch h),fun m hm=>absurd hm l_d⟩
def c2W(p:Nat)(L:U1)(C D:Cfg)(U:List Unt)(Au Bu:Option Addr)(cu du:Nat)(s:Sag):List HP:=[y7 p D (.slice Au U.length cu) s,a3N D (.slice Au U.length cu) U,m9 L C (.slice Bu U.length du) ⟨s,[]⟩,f8 Unt.enc 4 74 (.slice Bu U.length du) U]
theorem b6r(C:Cfg)(A:Option Addr)(c:Nat)(xs:List i5)(r:C.rd h0)(w:C.wf)(f1:C.os.length<1000000)(f2:C.ss.length<1000000)(f3:C.ps.length<1000000)(f4:∀o∈C.os,o.ls.length<1000000)(ha:Arr i5.enc 12 h0 A xs)(hxl:xs.length≤100)(hx:∀x∈xs,x.ok h0)(hxu:∀x∈xs,x.c.us.length≤100)(S:St h0 h l):
  d8 Tryz.prog 21 [.agg C.enc.toArray,.slice A xs.length c] h fun v h'=>(¬K4 C∧v= .tuple #[.pointer none,.pointer none]∧St h0 h' l)∨
   (K4 C∧∃p L D Au Bu cu du s,v= .tuple #[.pointer (some ⟨p,0,none⟩),.pointer (some ⟨L.p,0,none⟩)]∧D.pu=C.pu∧Stc C (j8 C)∧Pl C (j8 C) s (xs.length*201)∧St h0 h' (c2W p L C D (j8 C) Au Bu cu du s++l)):=by
 have r':∀{l:List HP} (h':c9),St h0 h' l→C.rd h':=fun h' S=>r.fr S.fr
 refine EN i21.eq_1 fun K hK=>Wa ?_
 (revert S;(try clear F);refine AL fun g h S F=> ?_)
 have FN:rdN h g 0 3=some C.enc:=n7 S.blk (l_a rfl)
 have hx3:C.enc.length=3:=rfl
 refine Wc @FN hx3 ?_
 refine cI (c0C C (fun h' S=>r' h' S) w f1 f2 f3 f4 S) ?_
 clear S F FN
 rintro _ h (⟨hn,rfl,S⟩|⟨hok,p,D,u,rfl,hw,hp,S⟩)
 ·refine Wa ?_
  exact hK _ _ (.inl ⟨hn,rfl,S.tl⟩)
 obtain⟨_,Au,cu,rfl,_⟩:=b4O S.p1
 have hD:=b4P hp hok
 have hDC:=b4P (C:=C) rfl hok
 have FN:rdN h g 0 3=some C.enc:=n7 S.p2.blk (l_a rfl)
 refine Wc @FN hx3 ?_
 refine cI (b7f C (fun h' S=>r' h' S) hok hDC S) ?_
 clear S FN
 rintro _ h ⟨q,Bu,du,rfl,S⟩
 have P0:Pl C (j8 C) (F7 C) 0:=⟨c3u,c1E hDC,_,b6F⟩
 obtain⟨L,hL⟩:∃L:U1,L=⟨q,none,0⟩:=⟨_,rfl⟩
 have hq:q=L.p:=by rw[hL]
 rw[←hL]at S
 rw[hq]
 clear hL hq
 obtain⟨U,hU⟩:∃U,U=j8 C:=⟨_,rfl⟩
 rw[←hU]at S hD hDC P0 hK
 clear hU
 have S:St h0 h (c2W p L C D U Au Bu cu du (F7 C)++d9 g C.enc 26::l):=by
  show St h0 h (_::_::_::_::_::_)
  (exact PM S)
 refine Wa ?_
 refine LKp (Nat.zero_add 0) [1,6,20] (fun ρ h'=>∃(i:Nat) (L:U1) (s:Sag),ρ 21= .int .i64 i∧i≤xs.length∧ρ 8= .pointer (some ⟨L.p,0,none⟩)∧Pl C U s (i*201)∧St h0 h' (c2W p L C D U Au Bu cu du s++d9 g C.enc 26::l)) (fun ρ _=>xs.length-(iv (ρ 21)).toNat) ?_ ?_
 ·refine Wa ?_
  exact⟨0,L,_,rfl,by omega,rfl,by simpa using P0,S⟩
 clear S P0
 rintro ρ h J ⟨e1,e6,e20⟩ hJ ⟨i,L,s,e21,hi,e8,P,S⟩
 refine Wc e20 e21 ?_
 refine cD (fun hlt=> ?_) (fun hlt=> ?_)
 rotate_left
 ·obtain rfl:i=xs.length:=by omega
  refine Wc e6 e8 ?_
  exact hK _ _ (.inr ⟨hok,p,L,D,Au,Bu,cu,du,s,rfl,hp,hDC,P,by
   have S:St h0 h (_::_::_::_::d9 g C.enc 26::l):=S
   exact S.p4.tl⟩)
 have hil:i<xs.length:=by omega
 have hxi:=hx _ (l_v hil)
 have hui:=hxu _ (l_v hil)
 obtain⟨b,o,rfl,q⟩:=(ha.fr S.fr (by simp)).at hil
 have hqx:∀{h':c9}{l':List HP},St h0 h' l'→rdN h' b (o+i*12) 12=some xs[i].enc:=fun S=>by
  obtain⟨b',o',e,q⟩:=(ha.fr S.fr (by simp)).at hil
  cases e
  exact q
 generalize xs[i]=x at*
 have hx12:x.enc.length=12:=rfl
 refine We e1 e6 e21 q ?_
 refine cI (b0A x (fun h' S=>hxi.us.fr S.fr (by simp)) (by omega) S) ?_
 clear S q
 rintro _ h ⟨y,rfl,hy,S⟩
 have hyi:y.c.i64:=by rw[hy];exact hxi.i64
 have S:St h0 h (y7 p D (.slice Au U.length cu) s::f8 i4 1 3 (.slice y.A y.c.us.length y.n) y.c.us::a3N D (.slice Au U.length cu) U::m9 L C (.slice Bu U.length du) ⟨s,[]⟩::f8 Unt.enc 4 74 (.slice Bu U.length du) U::d9 g C.enc 26::l):=S.p1
 refine Wa ?_
 refine cI (c0K y (Au:=Au) (cu:=cu) (U:=U) (l:=f8 i4 1 3 (.slice y.A y.c.us.length y.n) y.c.us::a3N D (.slice Au U.length cu) U::m9 L C (.slice Bu U.length du) ⟨s,[]⟩::f8 Unt.enc 4 74 (.slice Bu U.length du) U::d9 g C.enc 26::l) (by simp) (fun h' S=>S.arr zEl) (by rw[hy];omega) hyi hD S P.wf (by omega)) ?_
 clear S
 rintro _ h ⟨sl,rfl,S⟩
 rw[hy,b9T hp]at S
 obtain⟨hpq,P1⟩:=P.step hDC x.c
 have S:St h0 h (m9 L C (.slice Bu U.length du) ⟨s,[]⟩::y7 p D (.slice Au U.length cu) (O8 C U s x.c).2.2.2::a3N D (.slice Au U.length cu) U::f8 Unt.enc 4 74 (.slice Bu U.length du) U::d9 g C.enc 26::l):=by
  have S:=S.tl.d1
  exact S.p2
 have qx:=hqx S
 refine We e1 e8 e21 qx ?_
 refine cI (b7k x (fun h' S=>r' h' S) (fun h' S=>S.p2.arr Unt.enc_len) (fun h' S=>hxi.us.fr S.fr (by simp)) (by omega) hDC P.inv P.keys.2 S P.wf (by omega)) ?_
 clear S qx
 rintro _ h ⟨L',s',rfl,S⟩
 rw[←hpq]at S
 refine Wb e21 ?_
 refine hJ _ _ ?_ ?_
 ·refine Wa ?_
  refine⟨i+1,L',_,rfl,by omega,rfl,by rw[Nat.succ_mul];exact P1,?_⟩
  have S:=S.tl
  exact S.p2.p2
 ·refine Wb e21 ?_
  omega
end
end
section
set_option maxHeartbeats 16000000
def z7:List Value:=[.int .i64 0,.int .i64 0,.int .i64 0,.int .i64 0,.int .i64 0,.int .i64 0,.int .i64 0]
section
variable{h0 h:c9}{l:List HP}{p:Nat}{D:Cfg}{u:Value}{s:Sag}
theorem c1V(n:Int)(h:c9):d8 Tryz.prog 58 [.pointer none,.int .i64 n] h fun v h'=>v= .tuple #[.agg zR.enc.toArray,.int .i64 1]∧Fr h h' []:=by
 have S:=St.nil h
 refine EN i58.eq_1 fun K hK=>Wa ?_
 (revert S;(try clear F);refine AL fun g h S F=> ?_)
 refine Wa ?_
 (revert S;(try clear F);refine ST fun h S F=> ?_)
 refine Wb F ?_
 exact hK _ _ ⟨rfl,S.fr⟩
theorem c0H(n:Int)(h:c9):d8 Tryz.prog 22 [.pointer none,.int .i64 n] h fun v h'=>v= .tuple #[.agg z7.toArray,.int .i64 1]∧Fr h h' []:=by
 have S:=St.nil h
 refine EN i22.eq_1 fun K hK=>Wa ?_
 (revert S;(try clear F);refine AL fun g h S F=> ?_)
 refine Wa ?_
 refine cF S (c1V n _) fun h S=> ?_
 refine Wa ?_
 (revert S;(try clear F);refine AL fun g2 h S F=> ?_)
 refine Wc @zR.eq_1 @f9.enc.eq_1 ?_
 (revert S;(try clear F);refine ST fun h S F=> ?_)
 refine Wa ?_
 refine tS S.p1 rfl rfl (l_a rfl) ?_
 clear S F
 intro h S
 have FN:rdN h g 0 7=some z7:=by rw[n7 S.blk (l_a rfl)];rfl
 refine Wb @FN ?_
 exact hK _ _ ⟨rfl,S.fr⟩
end
end
section
set_option maxHeartbeats 16000000
theorem a6C(h:c9):d8 Tryz.prog 20 [] h fun v h'=>v= .bool true∧Fr h h' []:=by
 have S:=St.nil h
 refine EN i20.eq_1 fun K hK=>Wa ?_
 refine cF S (c0H 1 _) fun h S=> ?_
 refine Wa ?_
 refine tA S ?_
 clear S
 intro g h S
 (try simp(disch:=first|omega|assumption|exact l_a rfl) only[go_sem,↓wBk,simprocAttr,show z7.length=7 from rfl])
 refine tS S rfl rfl (l_a rfl) ?_
 clear S
 intro h S
 refine Wa ?_
 exact hK _ _ ⟨rfl,S.fr⟩
end
section
set_option maxHeartbeats 8000000
def U3(K:List KU)(p:Int):Nat:=(K.filter fun u=>decide (u.place=p)).length
theorem b5I(K:List KU)(p:Int){i:Nat}(hi:i<K.length):U3 (K.take (i+1)) p=U3 (K.take i) p+if K[i].place=p then 1 else 0:=by
 unfold U3
 rw[l_t hi,List.filter_append,l_m]
 by_cases h:K[i].place=p<;>simp[h]
theorem c1a(K:List KU)(p:Int):U3 K p≤K.length:=List.length_filter_le _ _
section
variable{h0 h:c9}{l:List HP}{k:Nat}{Ks:List KU}
theorem b5e(n:Int)(S:St h0 h (s9 k Ks::l))(hl:Ks.length<1000000):d8 Tryz.prog 63 [.pointer (some ⟨k,0,none⟩),.int .i64 n] h fun v h'=>v= .int .i64 (U3 Ks n:Nat)∧Fr h h' []:=by
 obtain⟨s,S⟩:=St.stk.1 S
 obtain⟨A,c,rfl⟩:=S.p1.sl
 have ha:=S.p1.arr KU.enc_len
 have F:=S.fx
 clear S
 have S:=St.nil h
 refine EN i63.eq_1 fun K hK=> ?_
 refine Wb F ?_
 refine lI (fun ρ h'=>ρ 1= .int .i64 n∧ρ 13= .slice A Ks.length c∧ρ 14= .int .i64 Ks.length∧∃i:Nat,ρ 15= .int .i64 i∧i≤Ks.length∧ρ 5= .int .i64 (U3 (Ks.take i) n:Nat)∧St h h' []) (fun ρ _=>Ks.length-(iv (ρ 15)).toNat) ?_ ?_
 ·refine Wa ?_
  exact⟨0,rfl,by omega,rfl,S⟩
 clear S F
 rintro ρ h1 J hJ ⟨e1,e13,e14,i,e15,hi,e5,S⟩
 refine Wc e14 e15 ?_
 refine cD (fun hlt=> ?_) (fun hlt=> ?_)
 ·have hil:i<Ks.length:=by omega
  have hsn:=b5I Ks n hil
  have hle:=c1a (Ks.take i) n
  rw[v8]at hle
  obtain⟨b,o,hA,q⟩:=(ha.fr S.fr (by simp)).at hil
  generalize Ks[i]=u at*
  refine We e13 e15 hA q ?_
  (revert S;(try clear F);refine AL fun g h S F=> ?_)
  refine Wb @KU.enc.eq_1 ?_
  (revert S;(try clear F);refine ST fun h S F=> ?_)
  by_cases h1:u.place=n
  ·rw[if_pos h1]at hsn
   refine Wg e1 e5 e15 F @KU.enc.eq_1 h1 ?_
   refine hJ _ _ ?_ ?_
   ·refine Wd e1 e13 e14 ?_
    exact⟨i+1,rfl,by omega,by rw[hsn];rfl,S.tl⟩
   ·refine Wb e15 ?_
    omega
  ·rw[if_neg h1]at hsn
   refine Wg e1 e5 e15 F @KU.enc.eq_1 h1 ?_
   refine hJ _ _ ?_ ?_
   ·refine Wd e1 e13 e14 ?_
    exact⟨i+1,rfl,by omega,by rw[hsn,e5];rfl,S.tl⟩
   ·refine Wb e15 ?_
    omega
 obtain rfl:i=Ks.length:=by omega
 rw[D4]at e5
 refine Wb e5 ?_
 exact hK _ _ ⟨rfl,S.fr⟩
end
instance (r:Ret):Decidable (a5z r):=by unfold a5z;exact inferInstance
end
section
set_option maxHeartbeats 16000000
section
variable{h0 h:c9}{l:List HP}{p:Nat}{D:Cfg}{u:Value}{s:Sag}{U:List Unt}{A:Option Addr}{c:Nat}
theorem b2Z(un:Int)(S:St h0 h (y7 p D u s::l))(hl:s.R.length≤100)(hr:∀r∈s.R,r.us.length<1000000∧r.gs.length<1000000):d8 Tryz.prog 71 [.pointer (some ⟨p,0,none⟩),.int .i64 un] h fun v h'=>v= .int .i64 (G8 s un)∧St h0 h' (y7 p D u s::l):=by
 obtain⟨pd,hpd⟩:∃pd:Ret→Bool,pd=fun r=> !decide (6≤r.state∧r.state≤9)&&r.us.contains un:=⟨_,rfl⟩
 have hh:G8 s un=((s.R.find? pd).map Ret.num).getD 0:=by rw[hpd];rfl
 rw[hh]
 refine EN i71.eq_1 fun K hK=>Wa ?_
 refine cI (a9u S (by omega) hr) ?_
 clear S
 intro v h S
 have S1:=St.rmas.1 S
 clear S
 obtain⟨vs,hvs,S⟩:=S1
 have hvl:vs.length=s.R.length:=by rw[←hvs,l_z]
 obtain⟨Bv,dv,rfl⟩:=S.sl
 obtain⟨LO,hLO⟩:∃LO,LO=f8 f9.enc 14 136 (.slice Bv vs.length dv) vs::(vs.map j0++(y7 p D u s::l)):=⟨_,rfl⟩
 have hend:∀{h':c9},St h0 h' LO→St h0 h' (y7 p D u s::l):=fun S=>by rw[hLO]at S;exact S.tl.dropL
 rw[←hLO]at S
 refine Wa ?_
 refine LKp (Nat.zero_add 0) [1,8,9] (fun ρ h'=>∃i:Nat,ρ 10= .int .i64 i∧i≤vs.length∧(∀r∈s.R.take i,pd r=false)∧St h0 h' LO) (fun ρ _=>vs.length-(iv (ρ 10)).toNat) ?_ ?_
 ·refine Wa ?_
  exact⟨0,rfl,by omega,by simp,S⟩
 clear S
 rintro ρ h J ⟨e1,e8,e9⟩ hJ ⟨i,e10,hi,hno,S⟩
 refine Wc e9 e10 ?_
 refine cD (fun hlt=> ?_) (fun hlt=> ?_)
 ·have hil:i<vs.length:=by omega
  have hiR:i<s.R.length:=by omega
  have hRi:s.R[i]=vs[i].r:=by simp only[←hvs,W9]
  have hrl:=hr _ (l_v hiR)
  have hq:∃b o,Bv=some ⟨b,o,none⟩∧rdN h b (o+i*14) 14=some vs[i].enc:=by rw[hLO]at S;exact(S.arr f9.enc_len).at hil
  have hus:∀{h':c9},St h0 h' LO→Arr i4 1 h' vs[i].A vs[i].r.us:=fun S=>by
   rw[hLO]at S
   exact(O7 S (by simp only[l_e,l_y];exact .inr (.inl (a3e (l_v hil))))).1
  have hsn:pd vs[i].r=false→∀r∈s.R.take (i+1),pd r=false:=fun hx r hr=>by
   rw[l_t hiR]at hr
   rcases List.mem_append.1 hr with hr|hr
   ·exact hno r hr
   ·rw[T9,hRi]at hr;rw[hr];exact hx
  have hfind:pd vs[i].r=true→s.R.find? pd=some vs[i].r:=fun hx=>by
   have:=a4f hiR hno (by rw[hRi];exact hx)
   rw[this,hRi]
  rw[hRi]at hrl
  generalize vs[i]=x at*
  obtain⟨b,o,rfl,q14⟩:=hq
  have hx14:x.enc.length=14:=rfl
  refine We e8 e10 q14 hx14 ?_
  refine tA S ?_
  clear S q14
  intro g h S
  refine Wb hx14 ?_
  refine tS S rfl rfl (l_a rfl) ?_
  clear S
  intro h S
  have S:St h0 h (d9 g x.enc 136::LO):=S
  have FN:rdN h g 0 14=some x.enc:=by rw[n7 S.blk (l_a rfl)];rfl
  refine Wc @FN hx14 ?_
  refine cI (a6q x _) ?_
  rintro _ h ⟨rfl,f1⟩
  have S:=S.frame f1
  clear f1 FN
  by_cases kd:a5z x.r
  ·rw[dT kd]
   refine Wb e10 ?_
   refine hJ _ _ ?_ ?_
   ·refine Wa ?_
    exact⟨i+1,rfl,by omega,hsn (by rw[hpd];obtain⟨a,b⟩:=kd;simp[a,b]),S.tl⟩
   ·refine Wb e10 ?_
    omega
  rw[dF kd]
  have hnd:decide (6≤x.r.state∧x.r.state≤9)=false:=by simp only[decide_eq_false_iff_not];exact kd
  have FN:rdN h g 0 14=some x.enc:=by rw[n7 S.blk (l_a rfl)];rfl
  refine Wd @FN hx14 e1 ?_
  refine cI (b6Y x (hus S.tl) (by omega) un) ?_
  rintro _ h ⟨rfl,f1⟩
  have S:=S.frame f1
  clear f1 FN
  have hm:=b4k x.r.us un
  have F:∀off,rd1 h (.pointer (some ⟨g,off,none⟩))=x.enc[off]? :=fun off=>j3 S.blk
  by_cases hv:un∈x.r.us
  ·have h1:=hm.2 hv
   refine Wd h1 F @f9.enc.eq_1 ?_
   refine hK _ _ ⟨?_,hend S.tl⟩
   rw[hfind (by rw[hpd];simp only[hnd,Bool.not_false,Bool.true_and];simpa using hv)]
   rfl
  ·have h1:¬0≤ixI x.r.us un:=fun h=>hv (hm.1 h)
   refine Wc h1 e10 ?_
   refine hJ _ _ ?_ ?_
   ·refine Wa ?_
    exact⟨i+1,rfl,by omega,hsn (by rw[hpd];simp only[hnd,Bool.not_false,Bool.true_and];simpa using hv),S.tl⟩
   ·refine Wb e10 ?_
    omega
 obtain rfl:i=vs.length:=by omega
 rw[hvl,D4]at hno
 refine Wa ?_
 exact hK _ _ ⟨by rw[a6S hno];rfl,hend S⟩
theorem b7i(S:St h0 h (y7 p D u s::l))(hl:s.R.length≤100)(hr:∀r∈s.R,r.us.length<1000000∧r.gs.length<1000000):d8 Tryz.prog 23 [.pointer (some ⟨p,0,none⟩)] h fun v h'=>St h0 h' (f8 i4 1 3 v ((s.R.filter fun r=> !decide (6≤r.state∧r.state≤9)).map Ret.num)::y7 p D u s::l):=by
 refine EN i23.eq_1 fun K hK=>Wa ?_
 refine cI (a9u S (by omega) hr) ?_
 clear S
 intro v h S
 have S1:=St.rmas.1 S
 clear S
 obtain⟨vs,hvs,S⟩:=S1
 have hvl:vs.length=s.R.length:=by rw[←hvs,l_z]
 obtain⟨Bv,dv,rfl⟩:=S.sl
 obtain⟨LO,hLO⟩:∃LO,LO=f8 f9.enc 14 136 (.slice Bv vs.length dv) vs::(vs.map j0++(y7 p D u s::l)):=⟨_,rfl⟩
 rw[←hLO]at S
 refine Wa ?_
 refine LKp (Nat.zero_add 0) [7,8] (fun ρ h'=>∃(i:Nat) (s3:Value),ρ 9= .int .i64 i∧i≤vs.length∧ρ 3=s3∧St h0 h' (f8 i4 1 3 s3 (((s.R.take i).filter fun r=> !decide (6≤r.state∧r.state≤9)).map Ret.num)::LO)) (fun ρ _=>vs.length-(iv (ρ 9)).toNat) ?_ ?_
 ·refine Wa ?_
  exact⟨0,_,rfl,by omega,rfl,S.nilS⟩
 clear S
 rintro ρ h J ⟨e7,e8⟩ hJ ⟨i,s3,e9,hi,e3,S⟩
 obtain⟨A3,c3,rfl⟩:=S.sl
 refine Wc e8 e9 ?_
 refine cD (fun hlt=> ?_) (fun hlt=> ?_)
 ·have hil:i<vs.length:=by omega
  have hiR:i<s.R.length:=by omega
  have hRi:s.R[i]=vs[i].r:=by simp only[←hvs,W9]
  have hq:∃b o,Bv=some ⟨b,o,none⟩∧rdN h b (o+i*14) 14=some vs[i].enc:=by rw[hLO]at S;exact(S.tl.arr f9.enc_len).at hil
  have hs:((s.R.take (i+1)).filter fun r=> !decide (6≤r.state∧r.state≤9)).map Ret.num=((s.R.take i).filter fun r=> !decide (6≤r.state∧r.state≤9)).map Ret.num++if a5z vs[i].r then []else [vs[i].r.num]:=by
   rw[l_t hiR,List.filter_append,K9,hRi]
   congr 1
   by_cases kd:a5z vs[i].r
   ·rw[if_pos kd,List.filter_cons,if_neg (by rw[decide_eq_true (show 6≤vs[i].r.state∧vs[i].r.state≤9 from kd)];decide)];rfl
   ·rw[if_neg kd,List.filter_cons,if_pos (by rw[decide_eq_false (show ¬(6≤vs[i].r.state∧vs[i].r.state≤9)from kd)];decide)];rfl
  have hle:(((s.R.take i).filter fun r=> !decide (6≤r.state∧r.state≤9)).map Ret.num).length≤i:=by
   rw[l_z]
   have:=List.length_filter_le (fun r:Ret=> !decide (6≤r.state∧r.state≤9)) (s.R.take i)
   rw[v8]at this
   omega
  generalize vs[i]=x at*
  obtain⟨b,o,rfl,q14⟩:=hq
  have hx14:x.enc.length=14:=rfl
  refine We e7 e9 q14 hx14 ?_
  refine tA S ?_
  clear S q14
  intro g h S
  refine Wb hx14 ?_
  refine tS S rfl rfl (l_a rfl) ?_
  clear S
  intro h S
  have FN:rdN h g 0 14=some x.enc:=by rw[n7 S.blk (l_a rfl)];rfl
  refine Wc @FN hx14 ?_
  refine cI (a6q x _) ?_
  rintro _ h ⟨rfl,f1⟩
  have S:=S.frame f1
  clear f1 FN
  by_cases kd:a5z x.r
  ·rw[dT kd]
   rw[if_pos kd,D6]at hs
   refine Wb e9 ?_
   refine hJ _ _ ?_ ?_
   ·refine Wb e3 ?_
    exact⟨i+1,_,rfl,by omega,rfl,by rw[hs];exact S.tl⟩
   ·refine Wb e9 ?_
    omega
  rw[dF kd]
  rw[if_neg kd]at hs
  have F:rd1 h (.pointer (some ⟨g,0,none⟩))=some (.int .i64 x.r.num):=by rw[j3 S.blk];rfl
  refine Wc F e3 ?_
  refine tA S.tl ?_
  clear S F
  intro b2 h S
  refine Wa ?_
  refine tA1 (bytes:=8) (x:=x.r.num) (xs:=((s.R.take i).filter fun r=> !decide (6≤r.state∧r.state≤9)).map Ret.num) zEl (by omega) zEp rfl rfl S (by omega) (by omega) ?_
  clear S
  intro v h S
  refine Wb e9 ?_
  refine hJ _ _ ?_ ?_
  ·refine Wa ?_
   exact⟨i+1,_,rfl,by omega,rfl,by rw[hs];exact S⟩
  ·refine Wb e9 ?_
   omega
 obtain rfl:i=vs.length:=by omega
 rw[hvl,D4]at S e3
 refine Wb e3 ?_
 refine hK _ _ ?_
 rw[hLO]at S
 exact S.d1.perm (List.perm_middle (l₁:=_::vs.map j0))|>.perm (List.Perm.refl _)|>fun S=>by
  have S:St h0 h (y7 p D u s::f8 i4 1 3 _ _::(vs.map j0++l)):=S
  exact(S.p1.perm (List.Perm.cons _ (List.Perm.cons _ (List.Perm.refl _))))|>fun S=>by
   have e:(f8 i4 1 3 (.slice A3 ((s.R.filter fun r=> !decide (6≤r.state∧r.state≤9)).map Ret.num).length c3) ((s.R.filter fun r=> !decide (6≤r.state∧r.state≤9)).map Ret.num)::y7 p D u s::(vs.map j0++l)).Perm (vs.map j0++(f8 i4 1 3 (.slice A3 ((s.R.filter fun r=> !decide (6≤r.state∧r.state≤9)).map Ret.num).length c3) ((s.R.filter fun r=> !decide (6≤r.state∧r.state≤9)).map Ret.num)::y7 p D u s::l)):=List.perm_append_comm_assoc [_,_] (vs.map j0) l
   exact(S.perm e).dropL
end
end
section
set_option maxHeartbeats 16000000
def a5Q(K:List KU)(n:Nat):List Value:=(List.range 9).map fun p=>if p<n then .int .i64 (U3 K p)else .int .i64 0
theorem b5G(K:List KU){n:Nat}(hn:n<9):u6 (a5Q K n) n [.int .i64 (U3 K n)]=a5Q K (n+1):=by
 have:n=0∨n=1∨n=2∨n=3∨n=4∨n=5∨n=6∨n=7∨n=8:=by omega
 rcases this with rfl|rfl|rfl|rfl|rfl|rfl|rfl|rfl|rfl<;>rfl
section
variable{h0 h:c9}{l:List HP}{p k:Nat}{D:Cfg}{u:Value}{s:Sag}{U:List Unt}{A:Option Addr}{c:Nat}{K:List KU}
theorem c0J(n:Int)(S:St h0 h (s9 k K::l)):d8 Tryz.prog 70 [.pointer (some ⟨k,0,none⟩),.int .i64 n] h fun v h'=>v= .int .i64 (b6I K n)∧h'=h:=by
 by_cases h1:0≤n∧n<K.length
 ·obtain⟨i,rfl⟩:=l_u h1.1
  have hi:i<K.length:=by omega
  refine EN i70.eq_1 fun K hK=>Wa ?_
  refine cI (a3B _ S) ?_
  rintro _ _ ⟨rfl,rfl⟩
  rw[dT h1]
  obtain⟨s,S⟩:=St.stk.1 S
  obtain⟨A,c,rfl⟩:=S.p1.sl
  obtain⟨b,rfl⟩:=S.p1.ownAt (by omega)
  have hp:=t7 KU.enc_len S.p1 (i:=i) (j:=1) hi (by omega)
  simp only[KU.enc,l_o,l_p]at hp
  ((try clear F);have F:=S.fx)
  refine Wc F hp ?_
  refine hK _ _ ⟨?_,rfl⟩
  rw[b6I,if_pos h1.1,J5,l_r hi]
  rfl
 ·refine EN i70.eq_1 fun K hK=>Wa ?_
  refine cI (a3B _ S) ?_
  rintro _ _ ⟨rfl,rfl⟩
  rw[dF h1]
  refine Wa ?_
  refine hK _ _ ⟨?_,rfl⟩
  rw[b6I]
  split
  ·rw[a0l (by omega)];rfl
  ·rfl
theorem b2n(S:St h0 h (y7 p D u s::l))(hl:s.K.length<1000000):d8 Tryz.prog 24 [.pointer (some ⟨p,0,none⟩)] h fun v h'=>v= .agg (a5Q s.K 9).toArray∧St h0 h' (y7 p D u s::l):=by
 refine EN i24.eq_1 fun K hK=>Wa ?_
 (revert S;(try clear F);refine AL fun g h S F=> ?_)
 refine Wa ?_
 (revert S;(try clear F);refine AL fun b h S F=> ?_)
 refine Wa ?_
 refine cI (a8o S.p2 hl) ?_
 clear S F
 rintro _ h ⟨k,rfl,S⟩
 have S:St h0 h (d9 b (a5Q s.K 0) 60::s9 k s.K::y7 p D u s::d9 g (a5Q s.K 0) 60::l):=S.p2
 refine Wa ?_
 refine LKp (Nat.zero_add 0) [2,3,4] (fun ρ h'=>∃i:Nat,ρ 11= .int .i64 i∧i≤9∧St h0 h' (d9 b (a5Q s.K i) 60::s9 k s.K::y7 p D u s::d9 g (a5Q s.K 0) 60::l)) (fun ρ _=>9-(iv (ρ 11)).toNat) ?_ ?_
 ·refine Wa ?_
  exact⟨0,rfl,by omega,S⟩
 clear S
 rintro ρ h J ⟨e2,e3,e4⟩ hJ ⟨i,e11,hi,S⟩
 refine Wb e11 ?_
 refine cD (fun hlt=> ?_) (fun hlt=> ?_)
 ·have hi9:i<9:=by omega
  refine Wc e4 e11 ?_
  refine cF S (b5e (i:Int) S.p1 hl) fun h S=> ?_
  refine Wd e3 e11 @l9 ?_
  have h9:i+1≤(a5Q s.K i).length:=by show i+1≤9;omega
  refine tS S rfl rfl h9 ?_
  clear S
  intro h S
  rw[b5G _ hi9]at S
  refine Wb e11 ?_
  refine hJ _ _ ?_ ?_
  ·refine Wa ?_
   exact⟨i+1,rfl,by omega,S⟩
  ·refine Wb e11 ?_
   omega
 obtain rfl:i=9:=by omega
 have FN:rdN h b 0 9=some (a5Q s.K 9):=by rw[n7 S.blk (v9 9)];rfl
 have h9:(a5Q s.K 9).length=9:=rfl
 refine We e2 e3 @FN h9 ?_
 refine tS S.p3 rfl rfl (v9 9) ?_
 clear S FN
 intro h S
 have FN:rdN h g 0 9=some (a5Q s.K 9):=by rw[n7 S.blk (v9 9)];rfl
 refine Wc e2 @FN ?_
 exact hK _ _ ⟨rfl,S.tl.tl.tl⟩
def unE(s:Sag)(U:List Unt)(n:Int):List Value:=[.int .i64 (i8 s.K n),.int .i64 (b6I s.K n),.int .i64 (G8 s n),.int .i64 (j6 U n).share]
def z4:List Value:=[.int .i64 0,.int .i64 0,.int .i64 0,.int .i64 0]
theorem b5q(n:Int)(S:St h0 h (y7 p D (.slice A U.length c) s::l))(hu:∀h',St h0 h' l→Arr Unt.enc 4 h' A U)(hul:U.length≤200)(hkl:s.K.length=U.length)(hl:s.R.length≤100)(hr:∀r∈s.R,r.us.length<1000000∧r.gs.length<1000000):
  d8 Tryz.prog 29 [.pointer (some ⟨p,0,none⟩),.int .i64 n] h fun v h'=>v=(if 0≤n∧n<U.length then .tuple #[.agg (unE s U n).toArray,.int .i64 0]else .tuple #[.agg z4.toArray,.int .i64 7])∧St h0 h' (y7 p D (.slice A U.length c) s::l):=by
 refine EN i29.eq_1 fun K hK=>Wa ?_
 (revert S;(try clear F);refine AL fun g h S F=> ?_)
 have S:St h0 h (y7 p D (.slice A U.length c) s::d9 g z4 89::l):=S.p1
 refine Wa ?_
 refine cI (b7l S (fun h' S=>hu h' S.tl) (by omega)) ?_
 clear S F
 intro v h S
 obtain⟨Av,cv,rfl⟩:=S.sl
 have S:St h0 h (d9 g z4 89::f8 Unt.enc 4 97 (.slice Av U.length cv) U::y7 p D (.slice A U.length c) s::l):=S.p2
 have hz:∀{h:c9},St h0 h (d9 g z4 89::f8 Unt.enc 4 97 (.slice Av U.length cv) U::y7 p D (.slice A U.length c) s::l)→rdN h g 0 4=some z4:=fun S=>by rw[n7 S.blk (v9 4)];rfl
 by_cases d1:n<0
 ·rw[if_neg (by omega)]at hK
  refine Wb d1 ?_
  refine tS S rfl rfl (l_a rfl) ?_
  clear S
  intro h S
  have FN:=hz S
  refine Wb @FN ?_
  exact hK _ _ ⟨rfl,S.tl.tl⟩
 by_cases d2:(U.length:Int)≤n
 ·rw[if_neg (by omega)]at hK
  refine Wc d1 d2 ?_
  refine tS S rfl rfl (l_a rfl) ?_
  clear S
  intro h S
  have FN:=hz S
  refine Wb @FN ?_
  exact hK _ _ ⟨rfl,S.tl.tl⟩
 rw[if_pos (by omega)]at hK
 obtain⟨i,rfl⟩:=l_u (show 0≤n by omega)
 have hi:i<U.length:=by omega
 refine Wc d1 d2 ?_
 refine cI (a8o S.p2 (by omega)) ?_
 clear S hz
 rintro _ h ⟨k,rfl,S⟩
 obtain⟨bv,rfl⟩:=S.p3.ownAt (by omega)
 have hat:j6 U (i:Int)=U[i]:=by rw[j6,J5,l_s,l_r hi];rfl
 have hsh:∀{h':c9},St h0 h' (s9 k s.K::y7 p D (.slice A U.length c) s::d9 g z4 89::f8 Unt.enc 4 97 (.slice (some ⟨bv,0,none⟩) U.length cv) U::l)→rd1 h' (.pointer (some ⟨bv,i*4+3,none⟩))=some (.int .i64 (j6 U (i:Int)).share):=fun S=>by
  rw[hat]
  exact t7 Unt.enc_len S.p3 (i:=i) (j:=3) hi (by omega)
 obtain⟨LO,hLO⟩:∃LO,LO=(s9 k s.K::y7 p D (.slice A U.length c) s::d9 g z4 89::f8 Unt.enc 4 97 (.slice (some ⟨bv,0,none⟩) U.length cv) U::l):=⟨_,rfl⟩
 rw[←hLO]at S hsh
 have rs:∀K t,j7 (fun h'=>St h0 h' LO) (fun h'=>rd1 h' (.pointer (some ⟨bv,i*4+3,none⟩))) K t=K (.int .i64 (j6 U (i:Int)).share):=fun K t=>rI (fun h' S=>hsh S) h S
 refine Wa ?_
 refine dI (fun h'=>St h0 h' LO) S ?_
 refine Wb rs ?_
 refine cI (a8j (i:Int) (show St h0 h (s9 k s.K::_) by rw[hLO]at S;exact S)) ?_
 rintro _ _ ⟨rfl,rfl⟩
 refine⟨S,?_⟩
 refine Wa ?_
 refine cI (c0J (i:Int) (show St h0 _ (s9 k s.K::_) by rw[hLO]at S;exact S)) ?_
 rintro _ h ⟨rfl,rfl⟩
 refine⟨S,?_⟩
 refine Wa ?_
 have S2:=S
 rw[hLO]at S2
 refine cI (b2Z (i:Int) S2.p1 hl hr) ?_
 clear S2
 clear S rs hsh
 rintro _ h ⟨rfl,S⟩
 refine⟨by rw[hLO];exact S.p1,?_⟩
 refine Wa ?_
 refine tS S.p2 rfl rfl (l_a rfl) ?_
 clear S
 intro h S
 have FN:rdN h g 0 4=some (unE s U i):=by rw[n7 S.blk (v9 4)];rfl
 refine Wb @FN ?_
 exact hK _ _ ⟨rfl,S.p1.d1.d1.d1⟩
end
end
end Go.Proofs.YtjagmebglhbdkaaGreat.MX
