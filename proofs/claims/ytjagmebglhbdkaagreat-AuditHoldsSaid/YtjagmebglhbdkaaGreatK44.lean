import Derived.Test.YtjagmebglhbdkaaGreatK43
import Derived.Test.YtjagmebglhbdkaaGreatK29
import Derived.Test.YtjagmebglhbdkaaGreatK21
import Derived.Test.YtjagmebglhbdkaaGreatK42
import Derived.Test.YtjagmebglhbdkaaGreatK20
import Derived.Test.YtjagmebglhbdkaaGreatK41
import Derived.Test.YtjagmebglhbdkaaGreatK25
import Derived.Test.YtjagmebglhbdkaaGreatK26
namespace Go.Proofs.YtjagmebglhbdkaaGreat.MX
open Go Go.Proofs
set_option linter.unusedSimpArgs false
set_option linter.unusedVariables false
section
set_option maxHeartbeats 8000000
def b7n(h0:c9)(L:Loc)(D:Cfg)(u:Value)(l:List HP)(x:Except Int (Int×List Msg×Wk))(v:Value)(h':c9):Prop:=match x with
 | .error e=>e≠0∧∃(n:Int) (sl:Value),v= .tuple #[.int .i64 n,sl,.int .i64 e]∧St h0 h' l
 | .ok y=>∃A c sl,v= .tuple #[.int .i64 y.1,sl,.int .i64 0]∧St h0 h' (i4 Msg.enc 6 128 sl y.2.1::wkA {L with A:=A,c:=c} D u y.2.2::l)
section
variable{h0 h:c9}{l:List HP}{p:Nat}{D:Cfg}{u:Value}{s:Sag}{U:List Unt}{m:Nat}{w:Wk}{L:Loc}{Au:Option Addr}{cu:Nat}
theorem a5H{x:Except Int Wk}{v:Value}(hv:a1c h0 L D u l x v h):b7n h0 L D u l (x.map fun w=>(0,[],w)) (.tuple #[.int .i64 0,.slice none 0 0,v]) h:=by
 cases x with
 |error e=>
  obtain⟨he,rfl,S⟩:=hv
  exact⟨he,0,_,rfl,S⟩
 |ok w=>
  obtain⟨rfl,S⟩:=hv
  exact⟨L.A,L.c,_,rfl,S.nilS⟩
theorem a1w{x:Except Int Wk}{v:Value}(hv:a1c h0 L D u l x v h):∃n,v= .int .i64 n:=by
 cases x with
 |error e=>exact⟨_,hv.2.1⟩
 |ok w=>exact⟨_,hv.1⟩
theorem c4x{x:Except Int (Wk×List Msg)}{v:Value}(hv:c4w h0 L D u l x v h):∃(s:Value) (e:Int),v= .tuple #[s,.int .i64 e]∧b7n h0 L D u l (x.map fun x=>(0,x.2,x.1)) (.tuple #[.int .i64 0,s,.int .i64 e]) h:=by
 cases x with
 |error e=>
  obtain⟨he,rfl,S⟩:=hv
  exact⟨_,_,rfl,he,0,_,rfl,S⟩
 |ok w=>
  obtain⟨s,rfl,S⟩:=hv
  exact⟨_,_,rfl,L.A,L.c,_,rfl,S.p1⟩
theorem c4v{x:Except Int (Int×Wk)}{v:Value}(hv:resQ h0 L D u l x v h):∃(n e:Int),v= .tuple #[.int .i64 n,.int .i64 e]∧b7n h0 L D u l (x.map fun x=>(x.1,[],x.2)) (.tuple #[.int .i64 n,.slice none 0 0,.int .i64 e]) h:=by
 cases x with
 |error e=>
  obtain⟨he,rfl,S⟩:=hv
  exact⟨_,_,rfl,he,0,_,rfl,S⟩
 |ok w=>
  obtain⟨rfl,A,c,S⟩:=hv
  exact⟨_,_,rfl,A,c,_,rfl,S.nilS⟩
theorem c1S{c:Cmd}{y:Int×List Msg×Wk}(h:doP D U w c= .ok y)(W:w.wf U m):y.2.1.length≤70000+m+200:=by
 unfold doP at h
 split at h
 ·obtain⟨z,_,rfl⟩:=u4 h;exact Nat.zero_le _
 split at h
 ·obtain⟨z,_,rfl⟩:=u4 h;exact Nat.zero_le _
 split at h
 ·obtain⟨z,_,rfl⟩:=u4 h;exact Nat.zero_le _
 split at h
 ·obtain⟨z,_,rfl⟩:=u4 h;exact Nat.zero_le _
 split at h
 ·obtain⟨z,_,rfl⟩:=u4 h;exact Nat.zero_le _
 split at h
 ·obtain⟨z,_,rfl⟩:=u4 h;exact Nat.zero_le _
 split at h
 ·obtain⟨z,hz,rfl⟩:=u4 h;exact(b5H hz W).2.2
 ·obtain⟨z,_,rfl⟩:=u4 h;exact Nat.zero_le _
theorem c4B(x:j0)(hc:∀h',St h0 h' l→D.rd h')(hu:∀h',St h0 h' l→Arr Unt.enc 4 h' Au U)(hx:∀h',St h0 h' l→Arr i6 1 h' x.A x.c.us)(hxl:x.c.kind=1→1≤x.c.us.length∧x.c.us.length≤200)(hi:x.c.i64)(hD:Stc D U)
  (S:St h0 h (wkA L D (.slice Au U.length cu) w::l)) (W:w.wf U m) (hm:m<250000):
  d8 Tryz.prog 46 [.pointer (some ⟨L.p,0,none⟩),.agg x.enc.toArray] h fun v h'=>b7n h0 L D (.slice Au U.length cu) l (doP D U w x.c) v h':=by
 have hul:=hD.ul
 obtain⟨X,hX⟩:∃X,X=doP D U w x.c:=⟨_,rfl⟩
 rw[←hX]
 unfold doP at hX
 refine EN i46.eq_1 fun K hK=>Wa ?_
 (revert S;(try clear F);refine AL fun g h S F=> ?_)
 have S:St h0 h (wkA L D (.slice Au U.length cu) w::d9 g x.enc 42::l):=S.p1
 have hdrop:∀{L:Loc}{v:Value}{h':c9},b7n h0 L D (.slice Au U.length cu) (d9 g x.enc 42::l) X v h'→b7n h0 L D (.slice Au U.length cu) l X v h':=fun {L v h'} hv=>by
  cases X with
  |error e=>obtain⟨he,n,sl,rfl,S⟩:=hv;exact⟨he,n,sl,rfl,S.tl⟩
  |ok y=>obtain⟨A,c,sl,rfl,S⟩:=hv;exact⟨A,c,sl,rfl,S.p2.tl⟩
 ((try clear F);have F:=S.fx)
 by_cases k1:x.c.kind=1
 ·rw[if_pos k1]at hX
  (try simp(disch:=first|omega|assumption|exact l_a rfl) only[go_sem,↓wBk,simprocAttr,F,j0.enc,eq_true k1])
  refine cI (b3S x (fun h' S=>hc _ S.tl) (fun h' S=>hu _ S.tl) (fun h' S=>hx _ S.tl) (hxl k1) hD S W (by omega)) ?_
  clear S F
  intro v h hv
  obtain⟨n,e,rfl,hv2⟩:=c4v hv
  rw[←hX]at hv2
  refine Wa ?_
  exact hK _ _ (hdrop hv2)
 rw[if_neg k1]at hX
 by_cases k2:x.c.kind=2
 ·rw[if_pos k2]at hX
  refine We F @j0.enc.eq_1 k1 k2 ?_
  refine cI (a5l _ _ S W (by omega) hul) ?_
  clear S F
  intro v h hv
  obtain⟨e,rfl⟩:=a1w hv
  have hv:=a5H hv
  rw[←hX]at hv
  refine Wa ?_
  exact hK _ _ (hdrop hv)
 rw[if_neg k2]at hX
 by_cases k3:x.c.kind=3
 ·rw[if_pos k3]at hX
  refine Wf F @j0.enc.eq_1 k1 k2 k3 ?_
  refine cI (a5l _ _ S W (by omega) hul) ?_
  clear S F
  intro v h hv
  obtain⟨e,rfl⟩:=a1w hv
  have hv:=a5H hv
  rw[←hX]at hv
  refine Wa ?_
  exact hK _ _ (hdrop hv)
 rw[if_neg k3]at hX
 by_cases k4:x.c.kind=4
 ·rw[if_pos k4]at hX
  refine Wg F @j0.enc.eq_1 k1 k2 k3 k4 ?_
  refine cI (c0D _ S W hul) ?_
  clear S F
  intro v h hv
  obtain⟨e,rfl⟩:=a1w hv
  have hv:=a5H hv
  rw[←hX]at hv
  refine Wa ?_
  exact hK _ _ (hdrop hv)
 rw[if_neg k4]at hX
 by_cases k5:x.c.kind=5
 ·rw[if_pos k5]at hX
  refine Wh F @j0.enc.eq_1 k1 k2 k3 k4 k5 ?_
  refine cI (b2C _ S W hul) ?_
  clear S F
  intro v h hv
  obtain⟨e,rfl⟩:=a1w hv
  have hv:=a5H hv
  rw[←hX]at hv
  refine Wa ?_
  exact hK _ _ (hdrop hv)
 rw[if_neg k5]at hX
 by_cases k6:x.c.kind=6
 ·rw[if_pos k6]at hX
  (try simp(disch:=first|omega|assumption|exact l_a rfl) only[go_sem,↓wBk,simprocAttr,F,j0.enc,k1,k2,k3,k4,k5,eq_true k6])
  refine cI (b6L x (fun h' S=>hc _ S.tl) (fun h' S=>hu _ S.tl) hD S W (by omega)) ?_
  clear S F
  intro v h hv
  obtain⟨e,rfl⟩:=a1w hv
  have hv:=a5H hv
  rw[←hX]at hv
  refine Wa ?_
  exact hK _ _ (hdrop hv)
 rw[if_neg k6]at hX
 by_cases k7:x.c.kind=7
 ·rw[if_pos k7]at hX
  refine Wi F @j0.enc.eq_1 k1 k2 k3 k4 k5 (Pc k6 k7) ?_
  refine cI (c3a x.c.days (fun h' S=>hc _ S.tl) (fun h' S=>hu _ S.tl) hD S W (by omega) hi.days) ?_
  clear S F
  intro v h hv
  obtain⟨n,e,rfl,hv2⟩:=c4x hv
  rw[←hX]at hv2
  refine Wa ?_
  exact hK _ _ (hdrop hv2)
 rw[if_neg k7]at hX
 refine Wi F @j0.enc.eq_1 k1 k2 k3 k4 k5 (Pc k6 k7) ?_
 refine cI (c0i x.c.key x.c.yes (fun h' S=>hc _ S.tl) hD S W (by omega)) ?_
 clear S F
 intro v h hv
 obtain⟨e,rfl⟩:=a1w hv
 have hv:=a5H hv
 rw[←hX]at hv
 refine Wa ?_
 exact hK _ _ (hdrop hv)
theorem c1y(x:j0)(hs:a0J D (.slice Au U.length cu) U∈l)(hx:∀h',St h0 h' l→Arr i6 1 h' x.A x.c.us)(hxl:x.c.us.length≤1000)(hi:x.c.i64)(hD:Stc D U)
  (S:St h0 h (B5 p D (.slice Au U.length cu) s::l)) (W:s.wf U m) (hm:m<250000):
  d8 Tryz.prog 14 [.pointer (some ⟨p,0,none⟩),.agg x.enc.toArray] h fun v h'=>∃sl,v= .tuple #[.int .i64 (O5 D U s x.c).1,sl,.int .i64 (O5 D U s x.c).2.2.1]∧
   St h0 h' (i4 Msg.enc 6 128 sl (O5 D U s x.c).2.1::B5 p D (.slice Au U.length cu) (O5 D U s x.c).2.2.2::l):=by
 have hul:=hD.ul
 have hd:O5 D U s x.c=if dcd x.c.formed=false then(0,[],1,s)else match doP D U ⟨s,[]⟩ x.c with
  | .error e=>(0,[],e,s)
  | .ok x=>(x.1,x.2.2.sd++x.2.1,0,x.2.2.s):=rfl
 generalize O5 D U s x.c=Y at*
 refine EN i14.eq_1 fun K hK=>Wa ?_
 (revert S;(try clear F);refine AL fun g h S F=> ?_)
 have S:St h0 h (B5 p D (.slice Au U.length cu) s::d9 g x.enc 42::l):=S.p1
 ((try clear F);have F:=S.fx)
 refine Wc F @j0.enc.eq_1 ?_
 refine cI (b5W x (hx _ S.tl.tl) hxl hi) ?_
 clear F
 rintro _ h ⟨rfl,f1⟩
 have S:=S.frame f1
 clear f1
 by_cases hf:x.c.formed
 case neg=>
  rw[if_pos (dF hf)]at hd
  rw[dF hf]
  refine Wa ?_
  refine hK _ _ ⟨_,by rw[hd],?_⟩
  rw[hd]
  exact S.d1.nilS
 rw[if_neg (by rw[dT hf];decide)]at hd
 rw[dT hf]
 refine Wa ?_
 refine cI (a9U S W hul (by omega)) ?_
 clear S
 rintro _ h ⟨q,rfl,S⟩
 obtain⟨L,hLp,Sw⟩:=c2R S
 subst hLp
 clear S
 have S:=Sw
 clear Sw
 have FN:=M3 (off:=0) (n:=12) S.p2 (by simp[j0.enc])
 refine Wb @FN ?_
 clear FN
 refine cI (c4B x (fun h' S=>(sAa (U:=U) (A:=Au) (c:=cu) S (by simp[hs])).1) (fun h' S=>(sAa (U:=U) (A:=Au) (c:=cu) (D:=D) S (by simp[hs])).2) (fun h' S=>hx _ S.tl.tl) (fun e=> ?_) hi hD S W hm) ?_
 ·have:=hf.1
  rw[Cmd.fits,if_pos e]at this
  omega
 clear S
 have hwf:=fun y=>b8G (D:=D) (U:=U) (w:=⟨s,[]⟩) (c:=x.c) (x:=y) (m:=m) hul (fun e=>by
  have:=hf.1
  rw[Cmd.fits,if_pos e]at this
  omega)
 have hlen:=fun y=>c1S (D:=D) (U:=U) (w:=⟨s,[]⟩) (c:=x.c) (y:=y) (m:=m)
 cases hy:doP D U ⟨s,[]⟩ x.c with
 |error e=>
  rw[hy]at hd
  rintro _ h ⟨he,n,sl,rfl,S⟩
  refine Wb he ?_
  refine hK _ _ ⟨_,by rw[hd],?_⟩
  rw[hd]
  exact S.d1.nilS
 |ok y=>
  rw[hy]at hd
  have hlen:=hlen _ hy W
  have W1:=hwf _ hy W
  clear hwf hy
  obtain⟨n,ag,w1⟩:=y
  simp only at hd hlen W1
  have hsl:=W1.sl
  rintro _ h ⟨A,c,sl,rfl,S⟩
  obtain⟨sd,vs,hv,S⟩:=St.wk.1 S.p1
  have hvl:vs.length=w1.s.R.length:=by rw[←hv,l_z]
  have S:=S.perm (W7 _ _ _ _ _ _ _ _)
  have S:St h0 h (a3B (.slice A w1.s.R.length c) w1.s.R::d9 L.p (t8 D (.slice Au U.length cu) L.k L.t L.o (.slice A w1.s.R.length c) sd w1.s) 113::t6 L.k w1.s.K::H2 L.t w1.s.T::D8 L.o w1.s.key w1.s.O::i4 Msg.enc 6 128 sd w1.sd::i4 Msg.enc 6 128 sl ag::B5 p D (.slice Au U.length cu) s::d9 g x.enc 42::l):=St.rmas.2 ⟨vs,hv,S⟩
  obtain⟨B,e,rfl⟩:=S.p5.sl
  obtain⟨C,f,rfl⟩:=S.p6.sl
  have F:=m8 (off:=14) S.p1
  simp only[t8,l_o,l_p]at F
  refine Wb F ?_
  clear F
  refine tAp (bytes:=48) (ys:=ag) enc_len (by omega) enc_plain rfl S.p5 rfl (E9 enc_len (S.p6.arr enc_len) rfl) (by omega) (by omega) ?_
  clear S
  intro sl h S
  refine Wa ?_
  refine tS S.p2 rfl rfl (l_a rfl) ?_
  clear S
  intro h S
  rw[t8]at S
  replace S:=S.nm
  have FN:=M3 (off:=0) (n:=15) S (by simp)
  simp only[a4D,a7v,a2j]at FN
  refine Wb @FN ?_
  clear FN
  obtain⟨k0,t0,o0,rs0,S⟩:=St.saga.1 S.p7
  refine tS S rfl rfl (l_a rfl) ?_
  clear S
  intro h S
  rw[t8]at S
  replace S:=S.nm
  refine Wa ?_
  have S:=S.d1.d1.d1.d1.d1.p6.tl.p6.tl
  have S:St h0 h (d9 p (t8 D (.slice Au U.length cu) L.k L.t L.o (.slice A w1.s.R.length c) (.slice none 0 0) w1.s) 113::i4 Msg.enc 6 128 sl (w1.sd++ag)::_):=S
  refine hK _ _ ⟨sl,by rw[hd],?_⟩
  rw[hd]
  have S:St h0 h (B5 p D (.slice Au U.length cu) w1.s::i4 Msg.enc 6 128 sl (w1.sd++ag)::l):=St.saga.2 ⟨L.k,L.t,L.o,_,by(exact PM S)⟩
  exact S.p1
end
end
section
set_option maxHeartbeats 8000000
theorem c2j{h:c9}{d:Nat}{cs:List Value}(hg:a3t Tryz.prog h d 3 cs):∃x:Int,cs=i6 x∧I64 x:=by
 have hl:a0x Tryz.prog 2 3=some [.int .i64]:=by kernel_rfl
 obtain⟨a0,_,rfl,w0,rfl⟩:=L9 2 hg hl
 exact⟨a0,rfl,C1 w0⟩
structure j0.ok(h:c9)(x:j0):Prop where
 us:Arr i6 1 h x.A x.c.us
 lt:x.c.us.length<9223372036854775808
 i64:x.c.i64
theorem c3O{h:c9}{d:Nat}{cs:List Value}(hg:a3t Tryz.prog h d 44 cs):∃x:j0,cs=x.enc∧x.ok h:=by
 have hl:a0x Tryz.prog 3 44=some [.int .i64,.int .i64,.slice 3,.int .i64,.int .i64,.bool,.int .i64,.int .i64,.int .i64,.int .i64,.int .i64,.bool]:=by kernel_rfl
 obtain⟨a0,_,rfl,w0,a1,_,rfl,w1,v2,_,rfl,g2,a3,_,rfl,w3,a4,_,rfl,w4,b5,_,rfl,a6,_,rfl,w6,a7,_,rfl,w7,a8,_,rfl,w8,a9,_,rfl,w9,a10,_,rfl,w10,b11,_,rfl,rfl⟩:=L9 3 hg hl
 have hm:maxLen=9223372036854775807:=rfl
 obtain⟨A,c,us,rfl,hu,q1,q2,hw⟩:=a2c.arr (enc:=i6) (sz:=1) (by kernel_rfl) (by decide) g2 c2j
 exact⟨⟨⟨a0,a1,us,a3,a4,b5,a6,a7,a8,a9,a10,b11⟩,A,c⟩,rfl,hu,by show us.length<_;omega,⟨C1 w0,C1 w1,hw,C1 w3,C1 w4,C1 w6,C1 w7,C1 w8,C1 w9,C1 w10⟩⟩
section
variable{h0 h:c9}{l:List HP}
theorem b1a(x:j0)(ha:∀h',St h0 h' l→Arr i6 1 h' x.A x.c.us)(l1:x.c.us.length<1000000)(S:St h0 h l):
  d8 Tryz.prog 15 [.agg x.enc.toArray] h fun v h'=>∃y:j0,v= .agg y.enc.toArray∧y.c=x.c∧St h0 h' (i4 i6 1 3 (.slice y.A y.c.us.length y.n) y.c.us::l):=by
 refine EN i15.eq_1 fun K hK=>Wa ?_
 (revert S;(try clear F);refine AL fun b h S F=> ?_)
 refine Wa ?_
 (revert S;(try clear F);refine AL fun g h S F=> ?_)
 refine Wc F @j0.enc.eq_1 ?_
 (revert S;(try clear F);refine AL fun t h S F=> ?_)
 refine Wa ?_
 (revert S;(try clear F);refine ST fun h S F=> ?_)
 refine Wa ?_
 (revert S;(try clear F);refine AL fun e h S F=> ?_)
 have S:=S.cellOwn (enc:=i6) (sz:=1) (ys:=[]) zEl rfl (by decide)
 ((try clear F);have F:=S.fx)
 refine Wc F @j0.enc.eq_1 ?_
 refine tAp (bytes:=8) (ys:=x.c.us) zEl (by omega) zEp rfl S rfl (E9 zEl (ha _ S.tl.tl.tl.tl) rfl) (by simp;omega) (by simp;omega) ?_
 clear S F
 intro v h S
 rw[l_k]at S
 obtain⟨A,c,rfl⟩:=S.sl
 refine Wa ?_
 (revert S;(try clear F);refine ST fun h S F=> ?_)
 refine Wb F ?_
 refine tS S.p2 rfl rfl (l_a rfl) ?_
 clear S F
 intro h S
 replace S:=S.nm
 ((try clear F);have F:=S.fx)
 refine Wb F ?_
 exact hK _ _ ⟨⟨x.c,A,c⟩,rfl,rfl,S.tl.tl.p1.tl⟩
end
def c7:Cmd:=⟨7,0,[],0,0,false,0,0,0,3,0,false⟩
theorem c4h{C:Cfg}:(C3 C).wf (l9 C) 0:=by
 refine⟨?_,Nat.zero_le _,fun r hr=>absurd hr (by simp[C3]),b8X,fun r hr=>absurd hr (by simp[C3]),Nat.zero_le _,fun r hr=>absurd hr (by simp[C3]),?_,Nat.zero_le _,?_⟩
 ·show(U5 ((l9 C).map Unt.sku) ((l9 C).map a3u)).length=(l9 C).length
  simp[U5]
 ·exact⟨by show(1:Int)≤1;decide,by show(1:Int)≤8589934592+0;decide⟩
 ·exact⟨by show(0:Int)≤0;decide,by show(0:Int)≤100000;decide⟩
end
section
set_option maxHeartbeats 8000000
def fewS(C:Cfg)(xs:List j0)(n:Nat):Prop:=xs.length≤n∧(∀x∈xs,x.c.us.length≤100)∧c3W C
theorem c1o{h0:c9}{A:Option Addr}{c:Nat}(C:Cfg)(xs:List j0)(n:Nat)(hn:n<1000)(hl:xs.length<9223372036854775808)(r:C.rd h0)(w:C.wf)(ha:Arr j0.enc 12 h0 A xs):
  d8 Tryz.prog 10 [.agg C.enc.toArray,.slice A xs.length c,.int .i64 n] h0 fun v h'=>v= .bool (dcd (fewS C xs n))∧Fr h0 h' []:=by
 have S:=St.nil h0
 refine EN i10.eq_1 fun K hK=>Wa ?_
 (revert S;(try clear F);refine AL fun g h S F=> ?_)
 refine Wa ?_
 refine lI (fun ρ h'=>ρ 1= .slice A xs.length c∧ρ 2= .int .i64 n∧ρ 3= .pointer (some ⟨g,0,none⟩)∧ρ 9= .int .i64 xs.length∧∃i:Nat,ρ 10= .int .i64 i∧i≤xs.length∧i≤n∧(∀x∈xs.take i,x.c.us.length≤100)∧St h0 h' [d9 g C.enc 26]) (fun ρ _=>xs.length-(iv (ρ 10)).toNat) ?_ ?_
 ·refine Wa ?_
  exact⟨0,rfl,by omega,by omega,fun x hx=>absurd hx (by simp),S⟩
 clear S F
 rintro ρ h J hJ ⟨e1,e2,e3,e9,i,e10,hi,hin,hp,S⟩
 ((try clear F);have F:=S.fx)
 refine Wc e9 e10 ?_
 refine cD (fun hlt=> ?_) (fun hlt=> ?_)
 ·have hil:i<xs.length:=by omega
  by_cases h1:(n:Int)≤i
  ·refine Wd e2 e10 h1 ?_
   exact hK _ _ ⟨by rw[dF (fun h=>by have:=h.1;omega)],S.fr⟩
  obtain⟨b,o,rfl,q⟩:=(ha.fr S.fr (by simp)).at hil
  have q:=rP q 2 (by omega)
  simp only[j0.enc,l_o,l_p]at q
  by_cases h2:(100:Int)<(xs[i].c.us.length:Int)
  ·refine Wg e1 e2 e10 h1 q h2 ?_
   exact hK _ _ ⟨by rw[dF (fun h=>by have:=h.2.1 _ (l_v hil);omega)],S.fr⟩
  refine Wg e1 e2 e10 h1 q h2 ?_
  refine hJ _ _ ?_ ?_
  ·refine We e1 e2 e3 e9 ?_
   refine⟨i+1,rfl,by omega,by omega,fun x hx=> ?_,S⟩
   rw[l_t hil]at hx
   rcases List.mem_append.1 hx with hx|hx
   ·exact hp x hx
   ·rw[List.mem_singleton.1 hx];omega
  ·refine Wb e10 ?_
   omega
 obtain rfl:i=xs.length:=by omega
 rw[C9]at hp
 refine Wc e3 F ?_
 refine cI (c3C C (r.fr S.fr) w) ?_
 rintro _ h ⟨rfl,f1⟩
 refine Wa ?_
 exact hK _ _ ⟨congrArg _ (by
  by_cases hf:c3W C
  ·rw[dT hf,dT ⟨hin,hp,hf⟩]
  ·rw[dF hf,dF (fun h=>hf h.2.2)]),(S.frame f1).fr⟩
end
section
set_option maxHeartbeats 16000000
def a3v(u:Unt):KU:=⟨if u.ord<0 then 3 else 0,u.sku,false,false⟩
section
variable{h0 h:c9}{l:List HP}
theorem b7S(C:Cfg)(r:∀h',St h0 h' l→C.rd h')(hok:K7 C)(hD:Stc C (l9 C))(S:St h0 h l):d8 Tryz.prog 13 [.agg C.enc.toArray] h fun v h'=>
  ∃(p:Nat) (Au:Option Addr) (cu:Nat),v= .pointer (some ⟨p,0,none⟩)∧St h0 h' (n9 ⟨p,none,0⟩ C (.slice Au (l9 C).length cu) ⟨C3 C,[]⟩::i4 Unt.enc 4 74 (.slice Au (l9 C).length cu) (l9 C)::l):=by
 have hul:=hD.ul
 have hK0:(C3 C).K=(l9 C).map a3v:=by
  show U5 ((l9 C).map Unt.sku) ((l9 C).map a3u)=_
  unfold U5
  rw[List.zipWith_map_left,List.zipWith_map_right]
  induction l9 C with
  |nil=>rfl
  |cons u U ih=>rw[List.zipWith_cons_cons,ih,G7];rfl
 obtain⟨s,hs⟩:∃s,s=C3 C:=⟨_,rfl⟩
 have hs2:s.R=[]∧s.T=[]∧s.O=[]∧s.led=⟨0,0,0,0,0⟩∧s.key=1∧s.now=0:=by rw[hs];exact⟨rfl,rfl,rfl,rfl,rfl,rfl⟩
 rw[←hs]at hK0⊢
 clear hs
 have hRU:=fun(h':c9) (l':List HP) (r':∀h',St h0 h' l'→C.rd h') (S:St h0 h' l')=>b6e C r' hok S
 generalize l9 C=U at*
 refine EN i13.eq_1 fun K hK=>Wa ?_
 (revert S;(try clear F);refine AL fun g h S F=> ?_)
 have FN:rdN h g 0 3=some C.enc:=v8 S.blk (l_a rfl)
 have rN:∀K t,j8 (fun h'=>rdN h' g 0 3=some C.enc) (fun h'=>i7 (rdN h' g 0 3) fun cs=>some (.agg cs.toArray)) K t=K (.agg C.enc.toArray):=fun K t=>rI (fun h' hh=>by rw[hh];rfl) h FN
 refine Wa ?_
 refine dI (fun h'=>rdN h' g 0 3=some C.enc) FN ?_
 refine Wb rN ?_
 refine cI (hRU _ _ (fun h' S=>r h' S.tl) S) ?_
 clear S F FN rN
 intro v h S
 obtain⟨Au,cu,rfl⟩:=S.sl
 refine⟨v8 S.tl.blk (l_a rfl),?_⟩
 have hx3:C.enc.length=3:=rfl
 refine Wb @Cfg.enc.eq_1 ?_
 refine tA S ?_
 clear S
 intro p h S
 replace S:=S.nm
 have S:St h0 h (d9 p (x6 C (.slice Au U.length cu) (.slice none 0 0) (.slice none 0 0) (.slice none 0 0) (.slice none 0 0) (.slice none 0 0) s) 68::i4 Unt.enc 4 74 (.slice Au U.length cu) U::d9 g C.enc 26::l):=by
  unfold x6
  rw[hs2.2.2.2.1,hs2.2.2.2.2.1,hs2.2.2.2.2.2]
  exact S
 have F:∀off,rd1 h (.pointer (some ⟨p,off,none⟩))=(x6 C (.slice Au U.length cu) (.slice none 0 0) (.slice none 0 0) (.slice none 0 0) (.slice none 0 0) (.slice none 0 0) s)[off]? :=fun off=>j3 S.blk
 refine Wc F @x6.eq_1 ?_
 refine LKp (Nat.zero_add 0) [3,15] (fun ρ h'=>∃(j:Nat) (k:Value),ρ 16= .int .i64 j∧j≤U.length∧St h0 h' (d9 p (x6 C (.slice Au U.length cu) k (.slice none 0 0) (.slice none 0 0) (.slice none 0 0) (.slice none 0 0) s) 68::i4 KU.enc 4 76 k ((U.take j).map a3v)::i4 Unt.enc 4 74 (.slice Au U.length cu) U::d9 g C.enc 26::l)) (fun ρ _=>U.length-(iv (ρ 16)).toNat) ?_ ?_
 ·refine Wa ?_
  exact⟨0,_,rfl,by omega,St.p1 S.nilS⟩
 clear S F
 rintro ρ h J ⟨e3,e15⟩ hJ ⟨j,k,e16,hj,S⟩
 obtain⟨Ak,ck,rfl⟩:=S.p1.sl
 have hkl:((U.take j).map a3v).length=j:=by rw[l_z,x4];omega
 refine Wc e15 e16 ?_
 refine cD (fun hlt=> ?_) (fun hlt=> ?_)
 ·have hjl:j<U.length:=by omega
  have hstep:(U.take (j+1)).map a3v=(U.take j).map a3v++ [a3v U[j]]:=by
   rw[l_t hjl,L7]
   rfl
  obtain⟨b,rfl⟩:=S.p2.ownAt (by omega)
  have q0:=u2 Unt.enc_len S.p2 (i:=j) (j:=0) hjl (by omega)
  have hq1:∀{h':c9}{X Y:HP}{M:List HP},St h0 h' (X::Y::i4 Unt.enc 4 74 (.slice (some ⟨b,0,none⟩) U.length cu) U::M)→rd1 h' (.pointer (some ⟨b,j*4+1,none⟩))=some (.int .i64 U[j].sku):=fun S=>u2 Unt.enc_len S.p2 (i:=j) (j:=1) hjl (by omega)
  obtain⟨x,hx⟩:∃x,x=U[j]:=⟨_,rfl⟩
  rw[←hx]at q0 hq1 hstep
  simp only[Unt.enc,l_o,H8]at q0
  have F:∀off,rd1 h (.pointer (some ⟨p,off,none⟩))=(x6 C (.slice (some ⟨b,0,none⟩) U.length cu) (.slice Ak ((U.take j).map a3v).length ck) (.slice none 0 0) (.slice none 0 0) (.slice none 0 0) (.slice none 0 0) s)[off]? :=fun off=>j3 S.blk
  obtain⟨LO,hLO⟩:∃LO,LO=(d9 p (x6 C (.slice (some ⟨b,0,none⟩) U.length cu) (.slice Ak ((U.take j).map a3v).length ck) (.slice none 0 0) (.slice none 0 0) (.slice none 0 0) (.slice none 0 0) s) 68::i4 KU.enc 4 76 (.slice Ak ((U.take j).map a3v).length ck) ((U.take j).map a3v)::i4 Unt.enc 4 74 (.slice (some ⟨b,0,none⟩) U.length cu) U::d9 g C.enc 26::l):=⟨_,rfl⟩
  rw[←hLO]at S
  have r4:∀K t,j8 (fun h'=>St h0 h' LO) (fun h'=>rd1 h' (.pointer (some ⟨p,4,none⟩))) K t=K (.slice Ak ((U.take j).map a3v).length ck):=fun K t=>rI (fun h' S=>by rw[hLO]at S;rw[j3 S.blk];rfl) h S
  have r3:∀K t,j8 (fun h'=>St h0 h' LO) (fun h'=>rd1 h' (.pointer (some ⟨p,3,none⟩))) K t=K (.slice (some ⟨b,0,none⟩) U.length cu):=fun K t=>rI (fun h' S=>by rw[hLO]at S;rw[j3 S.blk];rfl) h S
  have r1:∀K t,j8 (fun h'=>St h0 h' LO) (fun h'=>rd1 h' (.pointer (some ⟨b,j*4+1,none⟩))) K t=K (.int .i64 x.sku):=fun K t=>rI (fun h' S=>by rw[hLO]at S;exact hq1 S) h S
  by_cases d:x.ord<0
  all_goals
   refine Wg e3 e16 F @x6.eq_1 q0 d ?_
   refine dI (fun h'=>St h0 h' LO) S ?_
   refine Wf e3 e16 r4 r3 r1 ?_
   refine tA S ?_
   clear S F q0 r4 r3 r1 hq1
   intro b2 h S
   refine⟨S.tl,?_⟩
   rw[hLO]at S
   refine Wa ?_
   refine tA1 (bytes:=24) (x:=a3v x) (xs:=(U.take j).map a3v) KU.enc_len (by omega) KU.enc_plain rfl (by unfold a3v;(first|rw[if_pos d]|rw[if_neg d]);rfl) S.p2.p1 (by omega) (by omega) ?_
   clear S
   intro v h S
   obtain⟨A2,c2,rfl⟩:=S.sl
   refine Wa ?_
   refine tS S.p1 rfl rfl (l_a rfl) ?_
   clear S
   intro h S
   refine Wb e16 ?_
   refine hJ _ _ ?_ ?_
   ·refine Wa ?_
    exact⟨j+1,.slice A2 ((U.take j).map a3v++ [a3v x]).length c2,rfl,by omega,by rw[hstep];exact S⟩
   ·refine Wb e16 ?_
    omega
 obtain rfl:j=U.length:=by omega
 rw[C9,←hK0]at S
 refine Wb e3 ?_
 refine hK _ _ ⟨p,Au,cu,rfl,St.mo.2 ⟨.slice Ak s.K.length ck,.slice none 0 0,.slice none 0 0,.slice none 0 0,[],by rw[hs2.1];rfl,?_⟩⟩
 unfold moL
 rw[hs2.1,hs2.2.1,hs2.2.2.1]
 have S1:=S.p3.tl
 have S2:St h0 h (i4 tmE 2 139 (.slice none 0 0) []::i4 Msg.enc 6 127 (.slice none 0 0) []::i4 i0.enc 14 70 (.slice none 0 0) []::i4 Msg.enc 6 127 (.slice none 0 0) []::_):=S1.nilS.nilS.nilS.nilS
 exact S2.p5.p5
end
end
section
set_option maxHeartbeats 1000000
def b3J(f:Int→Option Msg)(m:Msg):Int→Option Msg:=fun k=>if k=m.key then some m else f k
def a2n(f:Int→Option Msg)(l:List Msg):Int→Option Msg:=l.foldl b3J f
def okS(f:Int→Option Msg)(m:Msg):Prop:=∀x,f m.key=some x→x.kind=m.kind∧x.rma=m.rma∧x.value=m.value∧x.tries<m.tries
def a2I(f:Int→Option Msg):List Msg→Prop
 | []=>True
 |m::l=>okS f m∧a2I (b3J f m) l
theorem a7S(f:Int→Option Msg)(a b:List Msg):a2n f (a++b)=a2n (a2n f a) b:=List.foldl_append
theorem a9s{a b:List Msg}:∀{f:Int→Option Msg},a2I f a→a2I (a2n f a) b→a2I f (a++b):=by
 induction a with
 |nil=>exact fun _ h=>h
 |cons m a ih=>exact fun h1 h2=>⟨h1.1,ih h1.2 h2⟩
theorem a1v{l:List Msg}:∀{f:Int→Option Msg}{k:Int},(∀m∈l,m.key≠k)→a2n f l k=f k:=by
 induction l with
 |nil=>exact fun _=>rfl
 |cons m l ih=>
  intro f k h
  show a2n (b3J f m) l k=f k
  rw[ih (fun x hx=>h x (by simp[hx])),b3J,if_neg (fun e=>h m (by simp) e.symm)]
theorem b5s{l:List Msg}:∀{f:Int→Option Msg}{m:Msg},l.Pairwise (fun a b=>a.key≠b.key)→m∈l→a2n f l m.key=some m:=by
 induction l with
 |nil=>exact fun _ h=>absurd h (by simp)
 |cons x l ih=>
  intro f m hp hm
  rw[List.pairwise_cons]at hp
  show a2n (b3J f x) l m.key=some m
  rcases List.mem_cons.1 hm with rfl|hm
  ·rw[a1v (fun y hy=>fun e=>hp.1 y hy e.symm),b3J,if_pos rfl]
  ·exact ih hp.2 hm
theorem b1Z{l:List Msg}:∀{f:Int→Option Msg},l.Pairwise (fun a b=>a.key≠b.key)→(∀m∈l,okS f m)→a2I f l:=by
 induction l with
 |nil=>exact fun _ _=>trivial
 |cons x l ih=>
  intro f hp h
  rw[List.pairwise_cons]at hp
  refine⟨h x (by simp),ih hp.2 fun m hm=> ?_⟩
  intro y hy
  rw[b3J,if_neg (fun e=>hp.1 m hm e.symm)]at hy
  exact h m (by simp[hm]) y hy
structure a8n(f:Int→Option Msg)(s:Sag):Prop where
 keys:a6J s
 old:∀k m,f k=some m→k<s.key
 has:∀m∈s.O,∃x,f m.key=some x∧x.kind=m.kind∧x.rma=m.rma∧x.value=m.value∧x.tries≤m.tries
theorem a9r{n:Int}{nw:List Msg}(h:∀i,(hi:i<nw.length)→nw[i].key=n+i):nw.Pairwise (fun a b=>a.key≠b.key)∧∀m∈nw,n≤m.key∧m.key<n+nw.length:=by
 refine⟨?_,fun m hm=> ?_⟩
 ·rw[List.pairwise_iff_getElem]
  intro i j hi hj hij
  rw[h i hi,h j hj]
  omega
 ·obtain⟨i,hi,rfl⟩:=R7 hm
  rw[h i hi]
  omega
section
variable{w w':Wk}{U:List Unt}{D:Cfg}{s:Sag}{f:Int→Option Msg}{c:Cmd}
theorem a9F{nw:List Msg}(h:a8n f s)(hn:∀i,(hi:i<nw.length)→nw[i].key=s.key+i):a2I f nw∧(∀k m,a2n f nw k=some m→k<s.key+nw.length)∧
  ∀m∈s.O++nw,∃x,a2n f nw m.key=some x∧x.kind=m.kind∧x.rma=m.rma∧x.value=m.value∧x.tries≤m.tries:=by
 obtain⟨hp,hk⟩:=a9r hn
 refine⟨b1Z hp fun m hm x hx=> ?_,fun k m hm=> ?_,fun m hm=> ?_⟩
 ·have:=h.old _ _ hx
  have:=(hk m hm).1
  omega
 ·by_cases hc:∃x∈nw,x.key=k
  ·obtain⟨x,hx,rfl⟩:=hc
   exact(hk x hx).2
  ·rw[a1v (fun x hx e=>hc ⟨x,hx,e⟩)]at hm
   have:=h.old _ _ hm
   omega
 ·rcases List.mem_append.1 hm with h1|h1
  ·rw[a1v (fun x hx e=>by have:=(hk x hx).1;have:=h.keys.1 m h1;omega)]
   exact h.has m h1
  ·exact⟨m,b5s hp h1,rfl,rfl,rfl,Int.le_refl _⟩
theorem a9G(h:a8n f s)(g:L5 ⟨s,[]⟩ w'):a2I f w'.sd∧a8n (a2n f w'.sd) w'.s:=by
 have hkeys:=a9c g h.keys
 obtain⟨nw,g1,g2,g3,g4⟩:=g
 rw[l_k]at g1
 obtain⟨a,b,c⟩:=a9F h g3
 rw[g1]
 refine⟨a,hkeys,fun k m hm=> ?_,fun m hm=>c m (g4.subset hm)⟩
 have:=b k m hm
 simp only at g2
 omega
theorem a5v(now:Int):∀l:List Msg,((y9 now l).map Msg.key).Sublist (l.map Msg.key)
 | []=>List.Sublist.refl _
 |x::l=>by
  have ih:=a5v now l
  simp only[y9,X9,L7,G7]at ih⊢
  unfold K6
  split
  ·simp only[G7,List.map_nil,l_j,l_k]
   exact ih.cons_cons _
  ·split
   ·simp only[List.map_nil,l_k]
    exact ih.cons _
   ·simp only[G7,List.map_nil,l_j,l_k,Msg.bump]
    exact ih.cons_cons _
theorem a9E(now:Int):∀l:List Msg,((A9 now l).map Msg.key).Sublist (l.map Msg.key)
 | []=>List.Sublist.refl _
 |x::l=>by
  have ih:=a9E now l
  simp only[A9,X9,L7,G7]at ih⊢
  unfold K9
  split
  ·simp only[List.map_nil,l_k]
   exact ih.cons _
  ·split
   ·simp only[List.map_nil,l_k]
    exact ih.cons _
   ·simp only[G7,List.map_nil,l_j,l_k,Msg.bump]
    exact ih.cons_cons _
theorem b1N{a b:List Msg}(hs:(a.map Msg.key).Sublist (b.map Msg.key))(hp:b.Pairwise (fun a b=>a.key≠b.key)):a.Pairwise (fun a b=>a.key≠b.key):=by
 have h1:(b.map Msg.key).Pairwise (· ≠ ·):=List.pairwise_map.2 hp
 exact List.pairwise_map.1 (h1.sublist hs)
theorem a7X{now:Int}{l:List Msg}{m:Msg}(h:m∈A9 now l):∃x∈l,¬x.due>now∧m=x.bump now:=by
 unfold A9 at h
 obtain⟨x,hx,hm⟩:=List.mem_flatMap.1 h
 unfold K9 at hm
 split at hm
 ·simp at hm
 ·split at hm
  ·simp at hm
  ·exact⟨x,hx,by assumption,by simpa using hm⟩
theorem b9q{now:Int}{l:List Msg}{m:Msg}(h:m∈y9 now l):(m∈l∧m.due>now)∨m∈A9 now l:=by
 unfold y9 at h
 obtain⟨x,hx,hm⟩:=List.mem_flatMap.1 h
 unfold K6 at hm
 split at hm
 ·rw[U1]at hm;rw[hm];exact .inl ⟨hx,by assumption⟩
 ·split at hm
  ·simp at hm
  ·right
   unfold A9
   refine List.mem_flatMap.2 ⟨x,hx,?_⟩
   unfold K9
   rw[if_neg (by assumption),if_neg (by assumption)]
   exact hm
theorem b7v{ss:List Sup}{days:Int}{x:Wk×List Msg}(h:a8n f s)(ht:a2h ss U ⟨s,[]⟩ days= .ok x):a2I f (x.1.sd++x.2)∧a8n (a2n f (x.1.sd++x.2)) x.1.s:=by
 unfold a2h at ht
 split at ht
 ·cases ht
 split at ht
 ·cases ht
 obtain⟨w1,h1,ht⟩:=T5 ht
 obtain⟨w3,h3,rfl⟩:=u4 ht
 have g0:=a3c (fun h=>b9a h) h1
 have g1:L5 ⟨s,[]⟩ w1:=L5.trans (L5.same (w:=⟨s,[]⟩) rfl rfl (List.Sublist.refl _)) g0
 clear g0
 have g3:=a3c (fun h=>a1m h) h3
 simp only at g3 h3⊢
 generalize s.now+days=now at*
 obtain⟨o1,s1⟩:=a9G h g1
 obtain⟨n3,a1,a2,a3,a4⟩:=g3
 simp only at a1 a2 a3 a4
 have hO1:=s1.keys
 obtain⟨b1,b2,b3⟩:=a9F s1 a3
 obtain⟨p3,k3⟩:=a9r a3
 have hsp:=b1N (a9E now w1.s.O) hO1.2
 rw[a1]
 have hok:a2I (a2n (a2n f w1.sd) n3) (A9 now w1.s.O):=b1Z hsp fun m hm y hy=>by
  obtain⟨z,hz,_,rfl⟩:=a7X hm
  obtain⟨y',hy',e1,e2,e3,e4⟩:=b3 z (Y0 _ hz)
  have:y=y':=by
   have hy:a2n (a2n f w1.sd) n3 z.key=some y:=hy
   rw[hy']at hy
   cases hy
   rfl
  subst this
  exact⟨e1,e2,e3,by show _<z.tries+1;omega⟩
 refine⟨a9s (a9s o1 b1) (by rw[a7S];exact hok),?_⟩
 rw[a7S,a7S]
 have hleft:a6J {w1.s with O:=y9 now w1.s.O}:=by
  refine⟨fun m hm=> ?_,b1N (a5v now _) hO1.2⟩
  have:m.key∈(y9 now w1.s.O).map Msg.key:=a0I hm
  obtain⟨z,hz,e⟩:=List.mem_map.1 ((a5v now _).subset this)
  rw[←e]
  exact hO1.1 z hz
 have hsk:∀m∈A9 now w1.s.O,m.key<w1.s.key:=fun m hm=>by
  obtain⟨z,hz,_,rfl⟩:=a7X hm
  exact hO1.1 z hz
 refine⟨a9c (a3c (fun h=>a1m h) h3) hleft,fun k m hm=> ?_,fun m hm=> ?_⟩
 ·by_cases hc:∃x∈A9 now w1.s.O,x.key=k
  ·obtain⟨x,hx,rfl⟩:=hc
   have:=hsk x hx
   omega
  ·rw[a1v (fun x hx e=>hc ⟨x,hx,e⟩)]at hm
   have:=b2 _ _ hm
   omega
 ·rcases List.mem_append.1 (a4.subset hm)with h5|h5
  ·rcases b9q h5 with⟨h6,h7⟩|h6
   ·rw[a1v (fun x hx e=> ?_)]
    ·exact b3 m (Y0 _ h6)
    ·obtain⟨z,hz,hd,rfl⟩:=a7X hx
     have:z=m:=by
      have hpw:=hO1.2
      rw[List.pairwise_iff_getElem]at hpw
      obtain⟨i,hi,rfl⟩:=R7 hz
      obtain⟨j,hj,rfl⟩:=R7 h6
      rcases Nat.lt_trichotomy i j with h|h|h
      ·exact absurd e (hpw i j hi hj h)
      ·subst h;rfl
      ·exact absurd e.symm (hpw j i hj hi h)
     rw[this]at hd
     exact hd h7
   ·exact⟨m,b5s hsp h6,rfl,rfl,rfl,Int.le_refl _⟩
  ·rw[a1v (fun x hx e=>by have:=hsk x hx;have:=(k3 m h5).1;omega)]
   exact b3 m (a2l _ h5)
theorem b7A(h:a8n f s):a2I f (O5 D U s c).2.1∧a8n (a2n f (O5 D U s c).2.1) (O5 D U s c).2.2.2:=by
 unfold O5
 split
 ·exact⟨trivial,h⟩
 ·split
  ·exact⟨trivial,h⟩
  ·rename_i x hx
   simp only
   have hg:(c.kind=7→a2I f (x.2.2.sd++x.2.1)∧a8n (a2n f (x.2.2.sd++x.2.1)) x.2.2.s)∧(c.kind≠7→x.2.1=[]∧L5 ⟨s,[]⟩ x.2.2):=by
    unfold doP at hx
    split at hx
    ·obtain⟨z,hz,rfl⟩:=u4 hx;exact⟨fun e=>by omega,fun _=>⟨rfl,b0j hz⟩⟩
    split at hx
    ·obtain⟨z,hz,rfl⟩:=u4 hx;exact⟨fun e=>by omega,fun _=>⟨rfl,a1m hz⟩⟩
    split at hx
    ·obtain⟨z,hz,rfl⟩:=u4 hx;exact⟨fun e=>by omega,fun _=>⟨rfl,a1m hz⟩⟩
    split at hx
    ·obtain⟨z,hz,rfl⟩:=u4 hx;exact⟨fun e=>by omega,fun _=>⟨rfl,b6M hz⟩⟩
    split at hx
    ·obtain⟨z,hz,rfl⟩:=u4 hx;exact⟨fun e=>by omega,fun _=>⟨rfl,b0i hz⟩⟩
    split at hx
    ·obtain⟨z,hz,rfl⟩:=u4 hx;exact⟨fun e=>by omega,fun _=>⟨rfl,b3r hz⟩⟩
    split at hx
    ·obtain⟨z,hz,rfl⟩:=u4 hx;exact⟨fun _=>b7v h hz,fun e=>absurd (by assumption) e⟩
    ·obtain⟨z,hz,rfl⟩:=u4 hx
     obtain⟨j,hj,_,g⟩:=b3s hz
     have hsub:(s.O.take j++s.O.drop (j+1)).Sublist s.O:=by
      rw[←List.eraseIdx_eq_take_drop_succ]
      exact List.eraseIdx_sublist ..
     exact⟨fun e=>absurd e (by assumption),fun _=>⟨rfl,L5.trans (w1:=⟨{s with O:=s.O.take j++s.O.drop (j+1)},[]⟩) (.same rfl rfl hsub) g⟩⟩
   by_cases hk:c.kind=7
   ·exact hg.1 hk
   ·obtain⟨e,g⟩:=hg.2 hk
    rw[e,D9]
    exact a9G h g
def NZ{α:Type}(x:Except Int α):Prop:=∀e,x= .error e→e≠0
theorem NZ.ok{α:Type}{y:α}:NZ (.ok y:Except Int α):=fun e h=>by cases h
theorem NZ.map{α β:Type}{x:Except Int α}{g:α→β}(h:NZ x):NZ (x.map g):=fun e he=>by
 cases x with
 |error e'=>cases he;exact h _ rfl
 |ok y=>cases he
end
end
theorem b8a{sg:Int}{sh:List Int}{U:List Unt}(h:∀u∈U,0≤u.cat):∀u∈a3H sg sh U,0≤u.cat:=by
 intro u hu
 unfold a3H at hu
 obtain⟨i,hi,rfl⟩:=R7 hu
 simp only[List.getElem_zipWith]
 exact h (U[i]'(by rw[List.length_zipWith]at hi;omega)) (l_v _)
theorem a8h{o:Odr}{k:Int}(ho:∀l∈o.ls,W5 k l)(i:Int):∀r,∀u∈U8 o i r,0≤u.cat
 |0=>by
  intro u hu
  obtain⟨x,hx,hu⟩:=List.mem_flatMap.1 hu
  rw[(List.mem_replicate.1 hu).2]
  exact(ho x hx).2.1
 |r+1=>b8a (a8h ho i r)
theorem a9u{k:Int}:∀{os:List Odr} (i:Nat),(∀o∈os,J6 k o)→∀u∈E1 i os,0≤u.cat
 | [],_,_,u,hu=>by cases hu
 |o::os,i,h,u,hu=>by
  rcases List.mem_append.1 hu with hu|hu
  ·exact a8h (h o (by simp)).2.1 _ _ u hu
  ·exact a9u (i+1) (fun x hx=>h x (by simp[hx])) u hu
theorem b7B{C:Cfg}(hok:K7 C):∀u∈l9 C,0≤u.cat:=fun u hu=>by
 rcases List.mem_append.1 hu with hu|hu
 ·exact a9u 0 hok.2.2.2.1 u hu
 ·obtain⟨x,_,hu⟩:=List.mem_flatMap.1 hu
  rw[(List.mem_replicate.1 hu).2]
  exact Int.le_refl _
theorem b5D{C D:Cfg}(hp:D.pu=C.pu)(hok:K7 C):Stc D (l9 C):=⟨b2a hp.symm hok,c0O hok,b7B hok,(a5a hok).2⟩
section
set_option maxHeartbeats 16000000
theorem b5r{D C:Cfg}(hp:D.pu=C.pu):D.ps=C.ps∧D.ss=C.ss∧D.os.map Odr.day=C.os.map Odr.day∧D.os.length=C.os.length:=by
 have h1:D.ps=C.ps:=congrArg Prod.fst hp
 have h2:D.ss=C.ss:=congrArg (fun x=>x.2.1) hp
 have h3:D.os.map Odr.pu=C.os.map Odr.pu:=congrArg (fun x=>x.2.2) hp
 refine⟨h1,h2,?_,?_⟩
 ·have:=congrArg (List.map Prod.fst) h3
  simpa[List.map_map,Function.comp_def,Odr.pu]using this
 ·have:=congrArg List.length h3
  simpa using this
theorem c0I{D C:Cfg}(hp:D.pu=C.pu)(U:List Unt)(s:Sag)(c:Cmd):O5 D U s c=O5 C U s c:=by
 obtain⟨h1,h2,h3,h4⟩:=b5r hp
 have hr:∀w,E5 D.ps D.os D.ss U w c=E5 C.ps C.os C.ss U w c:=fun w=>by
  have ha:N6 D.ps D.os U w.s c=N6 C.ps C.os U w.s c:=by
   unfold N6
   have:G1 D.ps D.os U w.s c=G1 C.ps C.os U w.s c:=by
    funext u
    unfold G1
    rw[←a0H,←a0H,h1,h3]
   rw[this]
  unfold E5
  rw[ha,h1,h2,h4]
 unfold O5 doP
 rw[hr,h1,h2]
section
variable{h0 h:c9}{l:List HP}{L:V3}{C D:Cfg}{U:List Unt}{m:Nat}{Au Bu:Option Addr}{cu du p:Nat}{s:Sag}
structure Pl(C:Cfg)(U:List Unt)(s:Sag)(m:Nat):Prop where
 wf:s.wf U m
 inv:Inv C U ⟨s,[]⟩ 1000 0
 key:∃f,a8n f s
theorem Pl.keys(P:Pl C U s m):a6J s:=P.key.choose_spec.keys
theorem Pl.step(hD:Stc C U)(P:Pl C U s m)(c:Cmd):O5 C U s c=a4Y C U s c∧Pl C U (O5 C U s c).2.2.2 (m+201):=by
 obtain⟨f,hf⟩:=P.key
 exact⟨c2W hD P.inv P.wf,c2Z hD.ul P.wf,c0J hD P.inv P.wf,_,(b7A hf).2⟩
theorem b7u{C:Cfg}:a8n (fun _=>none) (C3 C):=⟨⟨fun m hm=>absurd hm l_d,List.Pairwise.nil⟩,fun k m h=>(nomatch h),fun m hm=>absurd hm l_d⟩
def both(p:Nat)(L:V3)(C D:Cfg)(U:List Unt)(Au Bu:Option Addr)(cu du:Nat)(s:Sag):List HP:=[B5 p D (.slice Au U.length cu) s,a0J D (.slice Au U.length cu) U,n9 L C (.slice Bu U.length du) ⟨s,[]⟩,i4 Unt.enc 4 74 (.slice Bu U.length du) U]
end
end
end Go.Proofs.YtjagmebglhbdkaaGreat.MX
