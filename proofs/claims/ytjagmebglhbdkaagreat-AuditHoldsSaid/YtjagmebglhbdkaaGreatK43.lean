import Derived.Test.YtjagmebglhbdkaaGreatK38
import Derived.Test.YtjagmebglhbdkaaGreatK12
namespace Go.Proofs.YtjagmebglhbdkaaGreat.MX
open Go Go.Proofs
set_option linter.unusedSimpArgs false
set_option linter.unusedVariables false
section
set_option maxHeartbeats 8000000
def Cmd.zero:Cmd:=⟨0,0,[],0,0,false,0,0,0,0,0,false⟩
def Cmd.need(c:Cmd):Cmd:=
 if c.kind=1 then {Cmd.zero with kind:=c.kind,ord:=c.ord,us:=c.us,rea:=c.rea,want:=c.want,cred:=c.cred}
 else if 2≤c.kind∧c.kind≤5 then {Cmd.zero with kind:=c.kind,rma:=c.rma}
 else if c.kind=6 then {Cmd.zero with kind:=c.kind,rma:=c.rma,unit:=c.unit,grade:=c.grade}
 else if c.kind=7 then {Cmd.zero with kind:=c.kind,days:=c.days}
 else if c.kind=8 then {Cmd.zero with kind:=c.kind,key:=c.key,yes:=c.yes}else {Cmd.zero with kind:=c.kind}
theorem b9H(c:Cmd):c=c.need↔c.bare.nought:=by
 obtain⟨kind,ord,us,rea,want,cred,rma,unit,grade,days,key,yes⟩:=c
 unfold Cmd.need Cmd.bare Cmd.nought Cmd.zero
 simp only
 repeat' split
 all_goals simp only[Cmd.mk.injEq,true_and,and_true]
structure Cmd.i64(c:Cmd):Prop where
 kind:I64 c.kind
 ord:I64 c.ord
 us:∀u∈c.us,I64 u
 rea:I64 c.rea
 want:I64 c.want
 rma:I64 c.rma
 unit:I64 c.unit
 grade:I64 c.grade
 days:I64 c.days
 key:I64 c.key
theorem b5V{h:c9}{A B:Option Addr}{c d:Nat}{xs ys:List Int}(ha:Arr i6 1 h A xs)(hb:Arr i6 1 h B ys)(hl:xs.length<1000000)(hl2:ys.length<1000000):
  d8 Tryz.prog 128 [.slice A xs.length c,.slice B ys.length d] h fun r h'=>r= .bool (dcd (xs=ys))∧h'=h:=by
 by_cases hn:xs.length=ys.length
 case neg=>
  have hne:¬((xs.length:Int)=ys.length):=by omega
  refine EN i128.eq_1 fun K hK=> ?_
  refine Wb hne ?_
  exact hK _ _ ⟨by rw[dF fun h=>hn (by rw[h])],rfl⟩
 refine EN i128.eq_1 fun K hK=> ?_
 refine Wb hn ?_
 refine lI (fun ρ h'=>h'=h∧ρ 0= .slice A xs.length c∧ρ 1= .slice B ys.length d∧ρ 12= .int .i64 ys.length∧∃i:Nat,ρ 13= .int .i64 i∧i≤ys.length∧∀j,j<i→xs.getD j 0=ys.getD j 0) (fun ρ _=>ys.length-(iv (ρ 13)).toNat) ?_ ?_
 ·refine Wb hn ?_
  exact⟨0,rfl,by omega,fun j hj=>absurd hj (by omega)⟩
 rintro ρ h' J hJ ⟨rfl,e0,e1,e12,i,e13,hi,heq⟩
 refine Wc e12 e13 ?_
 refine cD (fun hlt=> ?_) (fun hlt=> ?_)
 ·have hil:i<ys.length:=by omega
  obtain⟨b1,o1,hA,q1⟩:=ha.at (i:=i) (by omega)
  have q1:=rP0 q1 (by omega)
  obtain⟨b2,o2,hB,q2⟩:=hb.at hil
  have q2:=rP0 q2 (by omega)
  simp only[i6,l_o,m9]at q1 q2
  rw[←l7]at q1 q2
  refine Wb e13 ?_
  refine dE ?_
  by_cases hv:xs.getD i 0=ys.getD i 0
  ·refine Wi e0 e1 e13 hA hB q1 q2 (Pc @m9 hv) ?_
   refine hJ _ _ ?_ ?_
   ·refine Wf e0 e1 e12 hA hB ?_
    refine⟨i+1,rfl,by omega,fun j hj=> ?_⟩
    by_cases e:j=i
    ·rw[e];exact hv
    ·exact heq j (by omega)
   ·refine Wb e13 ?_
    omega
  ·refine Wi e0 e1 e13 hA hB q1 q2 (Pc @m9 hv) ?_
   exact hK _ _ ⟨by rw[dF fun h=>hv (by rw[h])],rfl⟩
 obtain rfl:i=ys.length:=by omega
 refine Wa ?_
 refine hK _ _ ⟨?_,rfl⟩
 rw[dT]
 refine List.ext_getElem hn fun j h1 h2=> ?_
 have:=heq j h2
 rw[l7 h1,l7 h2]at this
 exact this
theorem b5l(x:j0)(h:c9):d8 Tryz.prog 87 [.agg x.enc.toArray] h fun v h'=>∃y:j0,v= .agg y.enc.toArray∧y.c=x.c.need∧(∀h'',Arr i6 1 h'' x.A x.c.us→Arr i6 1 h'' y.A y.c.us)∧Fr h h' []:=by
 have S:=St.nil h
 have hnil:∀h'',Arr i6 1 h'' none []:=fun h'' i hi=>absurd hi (by simp)
 refine EN i87.eq_1 fun K hK=>Wa ?_
 (revert S;(try clear F);refine AL fun b h S F=> ?_)
 refine Wa ?_
 (revert S;(try clear F);refine AL fun r h S F=> ?_)
 refine Wc F @j0.enc.eq_1 ?_
 (revert S;(try clear F);refine AL fun n h S F=> ?_)
 refine Wa ?_
 (revert S;(try clear F);refine ST fun h S F=> ?_)
 refine Wc F @j0.enc.eq_1 ?_
 have rb:∀(off:Nat) (v:Value),x.enc[off]? =some v→∀K t,j8 (fun h'=>blk h' b=some (x.enc,42,(0,0))) (fun h'=>rd1 h' (.pointer (some ⟨b,off,none⟩))) K t=K v:=fun off v hv K t=>rI (fun h' hb=>by rw[j3 hb];exact hv) h S.p2.blk
 have r1:=rb 1 _ rfl
 have r2:=rb 2 _ rfl
 have r3:=rb 3 _ rfl
 have r4:=rb 4 _ rfl
 have r5:=rb 5 _ rfl
 have r6:=rb 6 _ rfl
 have r7:=rb 7 _ rfl
 have r8:=rb 8 _ rfl
 have r9:=rb 9 _ rfl
 have r10:=rb 10 _ rfl
 have r11:=rb 11 _ rfl
 by_cases k1:x.c.kind=1
 ·have hd:x.c.need={Cmd.zero with kind:=x.c.kind,ord:=x.c.ord,us:=x.c.us,rea:=x.c.rea,want:=x.c.want,cred:=x.c.cred}:=if_pos k1
  refine Wb k1 ?_
  refine dI (fun h'=>blk h' b=some (x.enc,42,(0,0))) S.p2.blk ?_
  refine Wf r1 r2 r3 r4 r5 ?_
  (refine tS S rfl rfl (l_a rfl) ?_;clear S;intro h S;replace S:=S.nm;refine⟨S.p2.blk,?_⟩;(refine Wa ?_))
  (refine tS S rfl rfl (l_a rfl) ?_;clear S;intro h S;replace S:=S.nm;refine⟨S.p2.blk,?_⟩;(refine Wa ?_))
  (refine tS S rfl rfl (l_a rfl) ?_;clear S;intro h S;replace S:=S.nm;refine⟨S.p2.blk,?_⟩;(refine Wa ?_))
  (refine tS S rfl rfl (l_a rfl) ?_;clear S;intro h S;replace S:=S.nm;refine⟨S.p2.blk,?_⟩;(refine Wa ?_))
  (refine tS S rfl rfl (l_a rfl) ?_;clear S;intro h S;replace S:=S.nm)
  (have Fn:=M3 (off:=0) (n:=12) S (by simp);simp only[a4D,a7v,a2j]at Fn;(refine Wb @Fn ?_);refine tS S.p1 rfl rfl (l_a rfl) ?_;clear S;intro h S;replace S:=S.nm;((try clear F);have F:=S.fx);(refine Wb F ?_))
  refine hK _ _ ⟨⟨x.c.need,x.A,x.n⟩,by rw[j0.enc,hd,k1];rfl,rfl,fun h'' ha=>by rw[hd];exact ha,S.fr⟩
 by_cases k2:2≤x.c.kind∧x.c.kind≤5
 ·have hd:x.c.need={Cmd.zero with kind:=x.c.kind,rma:=x.c.rma}:=by rw[Cmd.need,if_neg k1,if_pos k2]
  have hk:x.c.kind=2∨x.c.kind=3∨x.c.kind=4∨x.c.kind=5:=by omega
  rcases hk with e|e|e|e
  all_goals
   have F:=m8 (off:=6) S.p2
   simp only[j0.enc,l_o,l_p]at F
   refine Wc e F ?_
   refine tS S rfl rfl (l_a rfl) ?_
   clear S
   intro h S
   replace S:=S.nm
   (have Fn:=M3 (off:=0) (n:=12) S (by simp);simp only[a4D,a7v,a2j]at Fn;(refine Wb @Fn ?_);refine tS S.p1 rfl rfl (l_a rfl) ?_;clear S;intro h S;replace S:=S.nm;((try clear F);have F:=S.fx);(refine Wb F ?_))
   refine hK _ _ ⟨⟨x.c.need,none,0⟩,by rw[j0.enc,hd,e];rfl,rfl,fun h'' ha=>by rw[hd];exact hnil _,S.fr⟩
 by_cases k6:x.c.kind=6
 ·have hd:x.c.need={Cmd.zero with kind:=x.c.kind,rma:=x.c.rma,unit:=x.c.unit,grade:=x.c.grade}:=by rw[Cmd.need,if_neg k1,if_neg k2,if_pos k6]
  refine Wb k6 ?_
  refine dI (fun h'=>blk h' b=some (x.enc,42,(0,0))) S.p2.blk ?_
  refine Wd r6 r7 r8 ?_
  (refine tS S rfl rfl (l_a rfl) ?_;clear S;intro h S;replace S:=S.nm;refine⟨S.p2.blk,?_⟩;(refine Wa ?_))
  (refine tS S rfl rfl (l_a rfl) ?_;clear S;intro h S;replace S:=S.nm;refine⟨S.p2.blk,?_⟩;(refine Wa ?_))
  (refine tS S rfl rfl (l_a rfl) ?_;clear S;intro h S;replace S:=S.nm)
  (have Fn:=M3 (off:=0) (n:=12) S (by simp);simp only[a4D,a7v,a2j]at Fn;(refine Wb @Fn ?_);refine tS S.p1 rfl rfl (l_a rfl) ?_;clear S;intro h S;replace S:=S.nm;((try clear F);have F:=S.fx);(refine Wb F ?_))
  refine hK _ _ ⟨⟨x.c.need,none,0⟩,by rw[j0.enc,hd,k6];rfl,rfl,fun h'' ha=>by rw[hd];exact hnil _,S.fr⟩
 by_cases k7:x.c.kind=7
 ·have hd:x.c.need={Cmd.zero with kind:=x.c.kind,days:=x.c.days}:=by rw[Cmd.need,if_neg k1,if_neg k2,if_neg k6,if_pos k7]
  have F:=m8 (off:=9) S.p2
  simp only[j0.enc,l_o,l_p]at F
  refine Wc k7 F ?_
  refine tS S rfl rfl (l_a rfl) ?_
  clear S
  intro h S
  replace S:=S.nm
  (have Fn:=M3 (off:=0) (n:=12) S (by simp);simp only[a4D,a7v,a2j]at Fn;(refine Wb @Fn ?_);refine tS S.p1 rfl rfl (l_a rfl) ?_;clear S;intro h S;replace S:=S.nm;((try clear F);have F:=S.fx);(refine Wb F ?_))
  refine hK _ _ ⟨⟨x.c.need,none,0⟩,by rw[j0.enc,hd,k7];rfl,rfl,fun h'' ha=>by rw[hd];exact hnil _,S.fr⟩
 by_cases k8:x.c.kind=8
 ·have hd:x.c.need={Cmd.zero with kind:=x.c.kind,key:=x.c.key,yes:=x.c.yes}:=by rw[Cmd.need,if_neg k1,if_neg k2,if_neg k6,if_neg k7,if_pos k8]
  refine Wb k8 ?_
  refine dI (fun h'=>blk h' b=some (x.enc,42,(0,0))) S.p2.blk ?_
  refine Wc r10 r11 ?_
  (refine tS S rfl rfl (l_a rfl) ?_;clear S;intro h S;replace S:=S.nm;refine⟨S.p2.blk,?_⟩;(refine Wa ?_))
  (refine tS S rfl rfl (l_a rfl) ?_;clear S;intro h S;replace S:=S.nm)
  (have Fn:=M3 (off:=0) (n:=12) S (by simp);simp only[a4D,a7v,a2j]at Fn;(refine Wb @Fn ?_);refine tS S.p1 rfl rfl (l_a rfl) ?_;clear S;intro h S;replace S:=S.nm;((try clear F);have F:=S.fx);(refine Wb F ?_))
  refine hK _ _ ⟨⟨x.c.need,none,0⟩,by rw[j0.enc,hd,k8];rfl,rfl,fun h'' ha=>by rw[hd];exact hnil _,S.fr⟩
 have hd:x.c.need={Cmd.zero with kind:=x.c.kind}:=by rw[Cmd.need,if_neg k1,if_neg k2,if_neg k6,if_neg k7,if_neg k8]
 have n2:¬x.c.kind=2:=by omega
 have n3:¬x.c.kind=3:=by omega
 have n4:¬x.c.kind=4:=by omega
 have n5:¬x.c.kind=5:=by omega
 refine Wi k1 n2 n3 n4 n5 k6 k7 k8 ?_
 (have Fn:=M3 (off:=0) (n:=12) S (by simp);simp only[a4D,a7v,a2j]at Fn;(refine Wb @Fn ?_);refine tS S.p1 rfl rfl (l_a rfl) ?_;clear S;intro h S;replace S:=S.nm;((try clear F);have F:=S.fx);(refine Wb F ?_))
 refine hK _ _ ⟨⟨x.c.need,none,0⟩,by rw[j0.enc,hd];rfl,rfl,fun h'' ha=>by rw[hd];exact hnil _,S.fr⟩
end
section
set_option maxHeartbeats 8000000
theorem a8B(x y:j0){h0:c9}(ha:Arr i6 1 h0 x.A x.c.us)(hb:Arr i6 1 h0 y.A y.c.us)(l1:x.c.us.length<1000000)(l2:y.c.us.length<1000000):
  d8 Tryz.prog 86 [.agg x.enc.toArray,.agg y.enc.toArray] h0 fun v h'=>v= .bool (dcd (x.c=y.c))∧Fr h0 h' []:=by
 have S:=St.nil h0
 have hu:=fun h' (S:St h0 h' [])=>b5V (c:=x.n) (d:=y.n) (ha.fr S.fr (by simp)) (hb.fr S.fr (by simp)) l1 l2
 obtain⟨⟨a0,a1,a2,a3,a4,a5,a6,a7,a8,a9,a10,a11⟩,A,n⟩:=x
 obtain⟨⟨b0,b1,b2,b3,b4,b5,b6,b7,b8,b9,b10,b11⟩,B,m⟩:=y
 simp only at ha hb l1 l2 hu
 refine EN i86.eq_1 fun K hK=>Wa ?_
 (revert S;(try clear F);refine AL fun p h S F=> ?_)
 refine Wa ?_
 (revert S;(try clear F);refine AL fun q h S F=> ?_)
 have Sn:St h0 h []:=S.tl.tl
 by_cases k0:a0=b0
 case neg=>
  refine Wd F @j0.enc.eq_1 k0 ?_
  exact hK _ _ ⟨by rw[dF fun h=>k0 (by cases h;rfl)],S.fr⟩
 by_cases k1:a1=b1
 case neg=>
  refine We F @j0.enc.eq_1 k0 k1 ?_
  exact hK _ _ ⟨by rw[dF fun h=>k1 (by cases h;rfl)],S.fr⟩
 subst k0 k1
 refine Wc F @j0.enc.eq_1 ?_
 refine cI (hu _ Sn) ?_
 clear hu Sn
 rintro _ h ⟨rfl,rfl⟩
 by_cases k2:a2=b2
 case neg=>
  rw[dF k2]
  refine Wa ?_
  exact hK _ _ ⟨by rw[dF fun h=>k2 (by cases h;rfl)],S.fr⟩
 rw[dT k2]
 by_cases k3:a3=b3
 case neg=>
  refine Wd F @j0.enc.eq_1 k3 ?_
  exact hK _ _ ⟨by rw[dF fun h=>k3 (by cases h;rfl)],S.fr⟩
 by_cases k4:a4=b4
 case neg=>
  refine We F @j0.enc.eq_1 k3 k4 ?_
  exact hK _ _ ⟨by rw[dF fun h=>k4 (by cases h;rfl)],S.fr⟩
 subst k2 k3 k4
 have hft:(false==true)=false:=rfl
 have htf:(true==false)=false:=rfl
 have hff:(false==false)=true:=rfl
 have htt:(true==true)=true:=rfl
 by_cases k5:a5=b5
 case neg=>
  have hK':=hK (.bool false) h ⟨by rw[dF fun h=>k5 (by cases h;rfl)],S.fr⟩
  cases a5<;>cases b5<;>first|exact absurd rfl k5|((refine Wg F @j0.enc.eq_1 hft htf hff htt ?_);exact hK')
 subst k5
 by_cases k6:a6=b6
 case neg=>
  have hK':=hK (.bool false) h ⟨by rw[dF fun h=>k6 (by cases h;rfl)],S.fr⟩
  cases a5<;>((refine Wh F @j0.enc.eq_1 hft htf hff htt k6 ?_);exact hK')
 by_cases k7:a7=b7
 case neg=>
  have hK':=hK (.bool false) h ⟨by rw[dF fun h=>k7 (by cases h;rfl)],S.fr⟩
  cases a5<;>((refine Wi F @j0.enc.eq_1 hft htf hff htt k6 k7 ?_);exact hK')
 by_cases k8:a8=b8
 case neg=>
  have hK':=hK (.bool false) h ⟨by rw[dF fun h=>k8 (by cases h;rfl)],S.fr⟩
  cases a5<;>((refine Wi F @j0.enc.eq_1 hft htf hff htt k6 (Pc k7 k8) ?_);exact hK')
 by_cases k9:a9=b9
 case neg=>
  have hK':=hK (.bool false) h ⟨by rw[dF fun h=>k9 (by cases h;rfl)],S.fr⟩
  cases a5<;>((refine Wi F @j0.enc.eq_1 hft htf hff htt k6 (Pd k7 k8 k9) ?_);exact hK')
 by_cases k10:a10=b10
 case neg=>
  have hK':=hK (.bool false) h ⟨by rw[dF fun h=>k10 (by cases h;rfl)],S.fr⟩
  cases a5<;>((refine Wi F @j0.enc.eq_1 hft htf hff htt k6 (Pe k7 k8 k9 k10) ?_);exact hK')
 subst k6 k7 k8 k9 k10
 by_cases k11:a11=b11
 case neg=>
  have hK':=hK (.bool false) h ⟨by rw[dF fun h=>k11 (by cases h;rfl)],S.fr⟩
  cases a5<;>cases a11<;>cases b11<;>first|exact absurd rfl k11|((refine Wg F @j0.enc.eq_1 hft htf hff htt ?_);exact hK')
 subst k11
 have hK':=hK (.bool true) h ⟨by rw[dT rfl],S.fr⟩
 cases a5<;>cases a11<;>((refine Wg F @j0.enc.eq_1 hft htf hff htt ?_);exact hK')
def a3U(o k:Nat)(P:Prop):HP:=exA fun x:List UInt8×Bool=>a2S (b2n (x.1.length≤k∧(x.2=false↔P))) (a3w o x.1 x.2)
section
variable{h0 h:c9}{l:List HP}{o k:Nat}{P:Prop}
theorem M0:St h0 h (a3U o k P::l)↔∃bs bad,(bs.length≤k∧(bad=false↔P))∧St h0 h (a3w o bs bad::l):=by
 rw[a3U,St.ex]
 constructor
 ·rintro⟨⟨bs,bad⟩,S⟩
  obtain⟨hp,S⟩:=St.pure.1 (St.star.1 S)
  exact⟨bs,bad,hp,S⟩
 ·rintro⟨bs,bad,hp,S⟩
  exact⟨⟨bs,bad⟩,St.star.2 (St.pure.2 ⟨hp,S⟩)⟩
theorem c4q{n:Nat}{v:Int}{bs:List UInt8}{bad:Bool}(hp:bs.length≤k∧(bad=false↔P)):(a3A n v bs bad).length≤k+n∧(a0z n v bad=false↔(P∧0≤v∧v<256^n)):=by
 constructor
 ·unfold a3A
  split
  ·have:=hp.1;omega
  ·rw[l_m,a3g];have:=hp.1;omega
 ·unfold a0z
  rw[Bool.or_eq_false_iff,hp.2,decide_eq_false_iff_not,Classical.not_not]
theorem a2a(v:Int)(S:St h0 h (a3U o k P::l))(hv:I64 v)(hk:k<100000):d8 Tryz.prog 129 [.pointer (some ⟨o,0,none⟩),.int .i64 v] h fun r h'=>St h0 h' (a3U o (k+1) (P∧btw v 0 255)::l):=by
 obtain⟨bs,bad,hp,S⟩:=M0.1 S
 refine d8.mono (c4R v S hv (by have:=hp.1;omega)) fun r h' S=>M0.2 ⟨_,_,?_,S⟩
 have:=c4q (n:=1) (v:=v) hp
 refine⟨this.1,this.2.trans ?_⟩
 unfold btw
 constructor<;>rintro⟨a,b,c⟩<;>exact⟨a,by omega,by omega⟩
theorem a6G(v:Int)(S:St h0 h (a3U o k P::l))(hv:I64 v)(hk:k<100000):d8 Tryz.prog 130 [.pointer (some ⟨o,0,none⟩),.int .i64 v] h fun r h'=>St h0 h' (a3U o (k+2) (P∧btw v 0 65535)::l):=by
 obtain⟨bs,bad,hp,S⟩:=M0.1 S
 refine d8.mono (c3H v S hv (by have:=hp.1;omega)) fun r h' S=>M0.2 ⟨_,_,?_,S⟩
 have:=c4q (n:=2) (v:=v) hp
 refine⟨this.1,this.2.trans ?_⟩
 unfold btw
 constructor<;>rintro⟨a,b,c⟩<;>exact⟨a,by omega,by omega⟩
theorem c3l(v:Int)(S:St h0 h (a3U o k P::l))(hv:I64 v)(hk:k<100000):d8 Tryz.prog 132 [.pointer (some ⟨o,0,none⟩),.int .i64 v] h fun r h'=>St h0 h' (a3U o (k+4) (P∧btw v 0 4294967295)::l):=by
 obtain⟨bs,bad,hp,S⟩:=M0.1 S
 refine d8.mono (c3I v S hv (by have:=hp.1;omega)) fun r h' S=>M0.2 ⟨_,_,?_,S⟩
 have:=c4q (n:=4) (v:=v) hp
 refine⟨this.1,this.2.trans ?_⟩
 unfold btw
 constructor<;>rintro⟨a,b,c⟩<;>exact⟨a,by omega,by omega⟩
theorem a4J{Q:Prop}(hq:P↔Q)(S:St h0 h (a3U o k P::l)):St h0 h (a3U o k Q::l):=by
 obtain⟨bs,bad,hp,S⟩:=M0.1 S
 exact M0.2 ⟨bs,bad,⟨hp.1,hp.2.trans hq⟩,S⟩
theorem b2L(v:Bool)(S:St h0 h (a3U o k P::l))(hk:k<100000):d8 Tryz.prog 131 [.pointer (some ⟨o,0,none⟩),.bool v] h fun r h'=>St h0 h' (a3U o (k+1) P::l):=by
 refine EN i131.eq_1 fun K hK=>Wa ?_
 cases v
 ·refine Wa ?_
  refine cI (a2a 0 S (by unfold I64;omega) hk) fun r h' S=> ?_
  refine Wa ?_
  exact hK _ _ (a4J (by unfold btw;simp) S)
 ·refine Wa ?_
  refine cI (a2a 1 S (by unfold I64;omega) hk) fun r h' S=> ?_
  refine Wa ?_
  exact hK _ _ (a4J (by unfold btw;simp) S)
theorem a5b(S:St h0 h (a3U o k P::l))(hk:k<100000):d8 Tryz.prog 133 [.pointer (some ⟨o,0,none⟩)] h fun r h'=>∃(v:Value) (e:Int),r= .tuple #[v,.int .i64 e]∧(e=0↔P)∧St h0 h' l:=by
 obtain⟨bs,bad,hp,S⟩:=M0.1 S
 refine d8.mono (c3A S (by have:=hp.1;omega)) ?_
 rintro r h' ⟨v,rfl,S⟩
 refine⟨v,_,rfl,?_,S.tl.tl⟩
 rw[←hp.2]
 cases bad<;>simp
end
theorem c1g(x:j0){h0:c9}(ha:Arr i6 1 h0 x.A x.c.us)(hl:x.c.us.length≤1000)(hl2:x.c.kind=1→1≤x.c.us.length∧x.c.us.length≤60)(hi:x.c.i64):
  d8 Tryz.prog 88 [.agg x.enc.toArray] h0 fun v h'=>∃(b:Value) (e:Int),v= .tuple #[b,.int .i64 e]∧(e=0↔x.c.fits)∧Fr h0 h' []:=by
 have S:=St.nil h0
 obtain⟨h1,h2,h3,h4,h5,h6,h7,h8,h9,h10⟩:=hi
 have hfr:∀{h':c9}{l:List HP},St h0 h' l→Arr i6 1 h' x.A x.c.us:=fun S=>ha.fr S.fr (by simp)
 refine EN i88.eq_1 fun K hK=>Wa ?_
 (revert S;(try clear F);refine AL fun b h S F=> ?_)
 refine Wa ?_
 (revert S;(try clear F);refine AL fun o h S F=> ?_)
 have S:St h0 h (a3U o 0 True::d9 b x.enc 42:: []):=M0.2 ⟨[],false,⟨by simp,by simp⟩,H4.2 ⟨.slice none 0 0,S.p1.nilS.p2⟩⟩
 have F:=(m8 (off:=0) S.p1)
 simp only[j0.enc,l_o,l_p]at F
 refine Wb F ?_
 refine cI (a2a _ S h1 (by omega)) ?_
 clear S F
 intro _ h S
 have Fk:=m8 (off:=0) S.p1
 have Fo:=m8 (off:=1) S.p1
 simp only[j0.enc,l_o,l_p]at Fk Fo
 by_cases k1:x.c.kind=1
 ·obtain⟨m1,m2⟩:=hl2 k1
  refine Wd @Fk @Fo k1 ?_
  refine cI (a2a _ S h2 (by omega)) ?_
  clear S Fk Fo
  intro _ h S
  have F:=m8 (off:=2) S.p1
  simp only[j0.enc,l_o,l_p]at F
  refine Wb F ?_
  refine cI (a2a _ S (by unfold I64;omega) (by omega)) ?_
  clear S F
  intro _ h S
  have F:=m8 (off:=2) S.p1
  simp only[j0.enc,l_o,l_p]at F
  refine Wb F ?_
  clear F
  refine lI (fun ρ h'=>ρ 1= .pointer (some ⟨b,0,none⟩)∧ρ 4= .pointer (some ⟨o,0,none⟩)∧ρ 22= .slice x.A x.c.us.length x.n∧ρ 23= .int .i64 x.c.us.length∧∃i:Nat,ρ 24= .int .i64 i∧i≤x.c.us.length∧
   St h0 h' [a3U o (3+i) (btw x.c.ord 0 255∧∀u∈x.c.us.take i,btw u 0 255),d9 b x.enc 42]) (fun ρ _=>x.c.us.length-(iv (ρ 24)).toNat) ?_ ?_
  ·refine Wa ?_
   refine⟨0,rfl,by omega,a4J ?_ S⟩
   unfold btw
   constructor
   ·rintro⟨⟨⟨_,_⟩,a⟩,b⟩
    exact⟨a,by simp⟩
   ·rintro⟨a,_⟩
    exact⟨⟨⟨trivial,by omega,by omega⟩,a⟩,by omega,by omega⟩
  clear S
  rintro ρ h J hJ ⟨e1,e4,e22,e23,i,e24,hi,S⟩
  refine Wc e23 e24 ?_
  refine cD (fun hlt=> ?_) (fun hlt=> ?_)
  ·have hil:i<x.c.us.length:=by omega
   obtain⟨b1,o1,hA1,q1⟩:=(hfr S).at hil
   have q1:=rP0 q1 (by omega)
   simp only[i6,l_o,m9]at q1
   refine Wg e4 e22 e24 hA1 q1 @m9 ?_
   refine cI (a2a _ S (h3 _ (l_v hil)) (by omega)) ?_
   clear S
   intro _ h S
   refine Wb e24 ?_
   refine hJ _ _ ?_ ?_
   ·refine Wf e1 e4 e22 e23 hA1 ?_
    refine⟨i+1,rfl,by omega,?_⟩
    rw[show 3+(i+1)=3+i+1 by omega]
    refine a4J ?_ S
    rw[l_t hil]
    constructor
    ·rintro⟨⟨a,b⟩,c⟩
     refine⟨a,fun u hu=> ?_⟩
     rcases List.mem_append.1 hu with hu|hu
     ·exact b u hu
     ·rw[U1]at hu;rw[hu];exact c
    ·rintro⟨a,b⟩
     exact⟨⟨a,fun u hu=>b u (Y0 _ hu)⟩,b _ (a2l _ (by simp))⟩
   ·refine Wb e24 ?_
    omega
  obtain rfl:i=x.c.us.length:=by omega
  rw[C9]at S
  have F:=m8 (off:=3) S.p1
  simp only[j0.enc,l_o,l_p]at F
  refine Wd e1 e4 F ?_
  refine cI (a2a _ S h4 (by omega)) ?_
  clear S F
  intro _ h S
  have F:=m8 (off:=4) S.p1
  simp only[j0.enc,l_o,l_p]at F
  refine Wd e1 e4 F ?_
  refine cI (a6G _ S h5 (by omega)) ?_
  clear S F
  intro _ h S
  have F:=m8 (off:=5) S.p1
  simp only[j0.enc,l_o,l_p]at F
  refine Wd e1 e4 F ?_
  refine cI (b2L _ S (by omega)) ?_
  clear S F
  intro _ h S
  refine Wb e4 ?_
  refine cI (a5b S (by omega)) ?_
  clear S
  rintro _ h ⟨v,e,rfl,he,S⟩
  refine Wa ?_
  refine hK _ _ ⟨v,e,rfl,he.trans ?_,S.fr⟩
  rw[Cmd.fits,if_pos k1]
  constructor
  ·rintro⟨⟨⟨a,b⟩,c⟩,d⟩
   exact⟨⟨m1,m2⟩,a,c,d,b⟩
  ·rintro⟨_,a,c,d,b⟩
   exact⟨⟨⟨a,b⟩,c⟩,d⟩
 by_cases k2:2≤x.c.kind∧x.c.kind≤5
 ·have hk:x.c.kind=2∨x.c.kind=3∨x.c.kind=4∨x.c.kind=5:=by omega
  rcases hk with e|e|e|e
  all_goals
   refine Wd @Fk @Fo e ?_
   clear Fk Fo
   have F:=m8 (off:=6) S.p1
   simp only[j0.enc,l_o,l_p]at F
   refine Wb F ?_
   refine cI (a6G _ S h6 (by omega)) ?_
   clear S F
   intro _ h S
   refine Wa ?_
   refine cI (a5b S (by omega)) ?_
   clear S
   rintro _ h ⟨v,e',rfl,he,S⟩
   refine Wa ?_
   refine hK _ _ ⟨v,e',rfl,he.trans ?_,S.fr⟩
   rw[Cmd.fits,if_neg k1,if_pos k2]
   constructor
   ·rintro⟨_,a⟩
    exact a
   ·intro a
    exact⟨⟨trivial,by unfold btw;omega⟩,a⟩
 by_cases k6:x.c.kind=6
 ·refine Wd @Fk @Fo k6 ?_
  clear Fk Fo
  have F:=m8 (off:=6) S.p1
  simp only[j0.enc,l_o,l_p]at F
  refine Wb F ?_
  refine cI (a6G _ S h6 (by omega)) ?_
  clear S F
  intro _ h S
  have F:=m8 (off:=7) S.p1
  simp only[j0.enc,l_o,l_p]at F
  refine Wb F ?_
  refine cI (a2a _ S h7 (by omega)) ?_
  clear S F
  intro _ h S
  have F:=m8 (off:=8) S.p1
  simp only[j0.enc,l_o,l_p]at F
  refine Wb F ?_
  refine cI (a2a _ S h8 (by omega)) ?_
  clear S F
  intro _ h S
  refine Wa ?_
  refine cI (a5b S (by omega)) ?_
  clear S
  rintro _ h ⟨v,e',rfl,he,S⟩
  refine Wa ?_
  refine hK _ _ ⟨v,e',rfl,he.trans ?_,S.fr⟩
  rw[Cmd.fits,if_neg k1,if_neg k2,if_pos k6]
  constructor
  ·rintro⟨⟨⟨_,a⟩,b⟩,c⟩
   exact⟨a,b,c⟩
  ·rintro⟨a,b,c⟩
   exact⟨⟨⟨⟨trivial,by unfold btw;omega⟩,a⟩,b⟩,c⟩
 by_cases k7:x.c.kind=7
 ·refine Wd @Fk @Fo k7 ?_
  clear Fk Fo
  have F:=m8 (off:=9) S.p1
  simp only[j0.enc,l_o,l_p]at F
  refine Wb F ?_
  refine cI (a6G _ S h9 (by omega)) ?_
  clear S F
  intro _ h S
  refine Wa ?_
  refine cI (a5b S (by omega)) ?_
  clear S
  rintro _ h ⟨v,e',rfl,he,S⟩
  refine Wa ?_
  refine hK _ _ ⟨v,e',rfl,he.trans ?_,S.fr⟩
  rw[Cmd.fits,if_neg k1,if_neg k2,if_neg k6,if_pos k7]
  constructor
  ·rintro⟨_,a⟩
   exact a
  ·intro a
   exact⟨⟨trivial,by unfold btw;omega⟩,a⟩
 by_cases k8:x.c.kind=8
 ·refine Wd @Fk @Fo k8 ?_
  clear Fk Fo
  have F:=m8 (off:=10) S.p1
  simp only[j0.enc,l_o,l_p]at F
  refine Wb F ?_
  refine cI (c3l _ S h10 (by omega)) ?_
  clear S F
  intro _ h S
  have F:=m8 (off:=11) S.p1
  simp only[j0.enc,l_o,l_p]at F
  refine Wb F ?_
  refine cI (b2L _ S (by omega)) ?_
  clear S F
  intro _ h S
  refine Wa ?_
  refine cI (a5b S (by omega)) ?_
  clear S
  rintro _ h ⟨v,e',rfl,he,S⟩
  refine Wa ?_
  refine hK _ _ ⟨v,e',rfl,he.trans ?_,S.fr⟩
  rw[Cmd.fits,if_neg k1,if_neg k2,if_neg k6,if_neg k7,if_pos k8]
  constructor
  ·rintro⟨_,a⟩
   exact a
  ·intro a
   exact⟨⟨trivial,by unfold btw;omega⟩,a⟩
 have n2:¬x.c.kind=2:=by omega
 have n3:¬x.c.kind=3:=by omega
 have n4:¬x.c.kind=4:=by omega
 have n5:¬x.c.kind=5:=by omega
 refine Wi @Fk @Fo k1 n2 n3 n4 n5 (Pd k6 k7 k8) ?_
 refine hK _ _ ⟨_,_,rfl,?_,S.fr⟩
 rw[Cmd.fits,if_neg k1,if_neg k2,if_neg k6,if_neg k7,if_neg k8]
 exact⟨fun h=>absurd h (by decide),fun h=>h.elim⟩
theorem b5W(x:j0){h0:c9}(ha:Arr i6 1 h0 x.A x.c.us)(hl:x.c.us.length≤1000)(hi:x.c.i64):
  d8 Tryz.prog 45 [.agg x.enc.toArray] h0 fun v h'=>v= .bool (dcd x.c.formed)∧Fr h0 h' []:=by
 have S:=St.nil h0
 have hfr:∀{h':c9}{l:List HP},St h0 h' l→Arr i6 1 h' x.A x.c.us:=fun S=>ha.fr S.fr (by simp)
 refine EN i45.eq_1 fun K hK=>Wa ?_
 (revert S;(try clear F);refine AL fun b h S F=> ?_)
 refine Wa ?_
 by_cases k1:x.c.kind=1∧¬(1≤x.c.us.length∧x.c.us.length≤60)
 ·have hnf:¬x.c.formed:=fun h=>by
   have:=h.1
   rw[Cmd.fits,if_pos k1.1]at this
   exact k1.2 this.1
  obtain⟨k1,k2⟩:=k1
  refine dE ?_
  by_cases k3:x.c.us.length<1
  ·have:x.c.us.length=0:=by omega
   refine We F @j0.enc.eq_1 k1 this ?_
   exact hK _ _ ⟨by rw[dF hnf],S.fr⟩
  ·have k4:60<x.c.us.length:=by omega
   have k5:¬(x.c.us.length:Int)<1:=by omega
   refine We F @j0.enc.eq_1 k1 k5 ?_
   exact hK _ _ ⟨by rw[dF hnf],S.fr⟩
 have hl2:x.c.kind=1→1≤x.c.us.length∧x.c.us.length≤60:=fun e=>Classical.byContradiction fun h=>k1 ⟨e,h⟩
 have rb:∀(off:Nat) (v:Value),x.enc[off]? =some v→∀K t,j8 (fun h'=>St h0 h' [d9 b x.enc 42]) (fun h'=>rd1 h' (.pointer (some ⟨b,off,none⟩))) K t=K v:=fun off v hv K t=>rI (fun h' S=>by rw[j3 S.blk];exact hv) h S
 have rN:∀K t,j8 (fun h'=>St h0 h' [d9 b x.enc 42]) (fun h'=>i7 (rdN h' b 0 12) fun cs=>some (.agg cs.toArray)) K t=K (.agg x.enc.toArray):=fun K t=>rI (fun h' S=>by rw[M3 S (by simp[j0.enc])];rfl) h S
 have r0:=rb 0 _ rfl
 have r2:=rb 2 _ rfl
 have hne:x.c.formed↔(x.c.fits∧x.c=x.c.need):=by rw[b9H];rfl
 have hneed:x.c.need.us.length≤1000:=by
  unfold Cmd.need
  split
  ·exact hl
  repeat' split
  all_goals exact Nat.zero_le _
 have hgo:∀{K:Value→c9→Prop}{h':c9},(∀(v:Value) (h':c9),v= .bool (dcd x.c.formed)∧Fr h0 h' []→K v h')→∀v,x.c≠x.c.need→v= .bool false→Fr h0 h' []→K v h':=fun hK v hn hv hf=>hK _ _ ⟨by rw[hv,dF fun h=>hn (hne.1 h).2],hf⟩
 clear rb
 refine cS S (fun ρ' h'=>ρ' 1= .pointer (some ⟨b,0,none⟩)∧ρ' 2= .bool false∧ρ' 26= .bool (!dcd (x.c=x.c.need))∧St h0 h' [d9 b x.enc 42]) ?_ ?_
 ·intro J hJ
  by_cases k:x.c.kind=1
  ·obtain⟨m1,m2⟩:=hl2 k
   have m3:¬(x.c.us.length:Int)<1:=by omega
   have m4:¬60<(x.c.us.length:Int):=by omega
   refine Wg r0 r2 rN k m3 m4 ?_
   refine cI (b5l x _) ?_
   rintro _ h ⟨y,rfl,hyc,hya,f1⟩
   have S:=S.frame f1
   refine⟨S,?_⟩
   refine Wa ?_
   have hya:=hya _ (hfr S)
   rw[hyc]at hya
   refine cI (a8B x y (hfr S) (by rw[hyc];exact hya) (by omega) (by rw[hyc];omega)) ?_
   clear F r0 r2 rN
   rintro _ h ⟨rfl,f2⟩
   have S:=S.frame f2
   rw[hyc]
   refine Wa ?_
   refine hJ _ _ ?_
   refine Wa ?_
   exact S
  ·refine We r0 r2 rN k ?_
   refine cI (b5l x _) ?_
   rintro _ h ⟨y,rfl,hyc,hya,f1⟩
   have S:=S.frame f1
   refine⟨S,?_⟩
   refine Wa ?_
   have hya:=hya _ (hfr S)
   rw[hyc]at hya
   refine cI (a8B x y (hfr S) (by rw[hyc];exact hya) (by omega) (by rw[hyc];omega)) ?_
   clear F r0 r2 rN
   rintro _ h ⟨rfl,f2⟩
   have S:=S.frame f2
   rw[hyc]
   refine Wa ?_
   refine hJ _ _ ?_
   refine Wa ?_
   exact S
 clear S F r0 r2 rN
 rintro ρ h ⟨e1,e2,e26,S⟩
 by_cases hn:x.c=x.c.need
 case neg=>
  rw[dF hn]at e26
  refine Wb e26 ?_
  exact hgo hK _ hn rfl S.fr
 rw[dT hn]at e26
 have F:=M3 (off:=0) (n:=12) S (by simp[j0.enc])
 refine Wd e1 e26 F ?_
 refine cI (c1g x (hfr S) hl hl2 hi) ?_
 clear F
 rintro _ h ⟨v,e,rfl,he,f1⟩
 have S:=S.frame f1
 by_cases e0:e=0
 ·refine Wb e0 ?_
  exact hK _ _ ⟨by rw[dT (hne.2 ⟨he.1 e0,hn⟩)],S.fr⟩
 ·refine Wb e0 ?_
  exact hK _ _ ⟨by rw[dF fun h=>e0 (he.2 (hne.1 h).1)],S.fr⟩
end
section
set_option maxHeartbeats 8000000
theorem b7b(s r c k t o:HP)(rows l:List HP):(s::r::(rows++(c::k::t::o::l))).Perm (c::k::t::o::r::s::(rows++l)):=by
 have h1:(rows++(c::k::t::o::l)).Perm (c::k::t::o::(rows++l)):=List.perm_append_comm_assoc rows [c,k,t,o] l
 refine(List.Perm.cons s (List.Perm.cons r h1)).trans ?_
 have h2:∀X:List HP,(s::r::c::k::t::o::X).Perm (c::k::t::o::r::s::X):=fun X=>
  ((List.Perm.swap r s _).trans (List.perm_append_comm_assoc [r,s] [c,k,t,o] X))
 exact h2 _
section
variable{h0 h:c9}{l:List HP}{p:Nat}{D:Cfg}{u:Value}{s:Sag}{U:List Unt}{m:Nat}{w:Wk}{L:Loc}
theorem a9U{Au:Option Addr}{nu cu:Nat}(S:St h0 h (B5 p D (.slice Au nu cu) s::l))(W:s.wf U m)(hU:U.length≤200)(hm:m<500000):
  d8 Tryz.prog 19 [.pointer (some ⟨p,0,none⟩)] h fun v h'=>∃q,v= .pointer (some ⟨q,0,none⟩)∧St h0 h' (B5 q D (.slice Au nu cu) s::B5 p D (.slice Au nu cu) s::l):=by
 obtain⟨k,t,o,rs,S⟩:=St.saga.1 S
 obtain⟨A0,c0,n0,rfl⟩:∃A0 c0 n0,rs= .slice A0 n0 c0:=by
  obtain⟨vs0,hv0,S0⟩:=St.rmas.1 S.p4
  obtain⟨A0,c0,e⟩:=S0.sl
  exact⟨A0,c0,_,e⟩
 have hkl:s.K.length=U.length:=W.kl
 have htl:s.T.length≤100:=W.tl
 have hol:s.O.length≤70000+m:=W.ol
 have hrl:s.R.length≤100:=W.rl
 have hrr:∀r∈s.R,r.us.length≤200∧r.gs.length=r.us.length:=W.len
 have Fn:=M3 (off:=0) (n:=15) S (by simp[t8])
 simp only[t8,a4D,a7v,a2j]at Fn
 refine EN i19.eq_1 fun K hK=> ?_
 refine Wb @Fn ?_
 clear Fn
 (revert S;(try clear F);refine AL fun q h S F=> ?_)
 refine Wa ?_
 refine tS S rfl rfl (l_a rfl) ?_
 clear S F
 intro h S
 replace S:=S.nm
 have r4:∀K t',j8 (fun h'=>blk h' p=some (t8 D (.slice Au nu cu) k t o (.slice A0 n0 c0) (.slice none 0 0) s,113,(0,0))) (fun h'=>rd1 h' (.pointer (some ⟨p,4,none⟩))) K t'=K (.pointer (some ⟨k,0,none⟩)):=fun K t'=>rI (fun h' hb=>by rw[j3 hb];rfl) h S.p1.blk
 have r11:∀K t',j8 (fun h'=>blk h' p=some (t8 D (.slice Au nu cu) k t o (.slice A0 n0 c0) (.slice none 0 0) s,113,(0,0))) (fun h'=>rd1 h' (.pointer (some ⟨p,11,none⟩))) K t'=K (.pointer (some ⟨t,0,none⟩)):=fun K t'=>rI (fun h' hb=>by rw[j3 hb];rfl) h S.p1.blk
 have r12:∀K t',j8 (fun h'=>blk h' p=some (t8 D (.slice Au nu cu) k t o (.slice A0 n0 c0) (.slice none 0 0) s,113,(0,0))) (fun h'=>rd1 h' (.pointer (some ⟨p,12,none⟩))) K t'=K (.pointer (some ⟨o,0,none⟩)):=fun K t'=>rI (fun h' hb=>by rw[j3 hb];rfl) h S.p1.blk
 refine Wa ?_
 refine dI (fun h'=>blk h' p=some (t8 D (.slice Au nu cu) k t o (.slice A0 n0 c0) (.slice none 0 0) s,113,(0,0))) S.p1.blk ?_
 refine Wd r4 r11 r12 ?_
 have S:St h0 h (d9 q (t8 D (.slice Au nu cu) k t o (.slice A0 n0 c0) (.slice none 0 0) s) 113::_):=S
 refine cI (a8D S.p2 (by omega)) ?_
 clear S r4 r11 r12
 rintro _ h ⟨k',rfl,S⟩
 refine⟨S.p3.blk,?_⟩
 refine Wa ?_
 refine cI (b5S S.p4 (by omega)) ?_
 clear S
 rintro _ h ⟨t',rfl,S⟩
 refine⟨S.p5.blk,?_⟩
 refine Wa ?_
 refine cI (a5O S.p6 (by omega)) ?_
 clear S
 rintro _ h ⟨o',rfl,S⟩
 refine Wa ?_
 have S:St h0 h (B5 p D (.slice Au nu cu) s::t6 k' s.K::H2 t' s.T::D8 o' s.key s.O::d9 q (t8 D (.slice Au nu cu) k t o (.slice A0 n0 c0) (.slice none 0 0) s) 113::l):=St.saga.2 ⟨k,t,o,_,by(exact PM S)⟩
 refine cI (a4i S (by omega) (fun r hr=>by have:=hrr r hr;omega)) ?_
 clear S
 intro v h S
 obtain⟨vs,hv,S⟩:=St.rmas.1 S
 obtain⟨A,c,rfl⟩:=S.sl
 have S:St h0 h (a3B (.slice A vs.length c) s.R::B5 p D (.slice Au nu cu) s::t6 k' s.K::H2 t' s.T::D8 o' s.key s.O::d9 q (t8 D (.slice Au nu cu) k t o (.slice A0 n0 c0) (.slice none 0 0) s) 113::l):=St.rmas.2 ⟨vs,hv,S⟩
 refine Wa ?_
 (refine tS S.p5 rfl rfl (l_a rfl) ?_;clear S;intro h S;rw[t8]at S;replace S:=S.nm;(refine Wa ?_))
 (refine tS S rfl rfl (l_a rfl) ?_;clear S;intro h S;replace S:=S.nm;(refine Wa ?_))
 (refine tS S rfl rfl (l_a rfl) ?_;clear S;intro h S;replace S:=S.nm;(refine Wa ?_))
 (refine tS S rfl rfl (l_a rfl) ?_;clear S;intro h S;replace S:=S.nm;(refine Wa ?_))
 (refine tS S rfl rfl (l_a rfl) ?_;clear S;intro h S;replace S:=S.nm;(refine Wa ?_))
 have S:St h0 h (d9 q (t8 D (.slice Au nu cu) k' t' o' (.slice A vs.length c) (.slice none 0 0) s) 113::_):=S
 exact hK _ _ ⟨q,rfl,St.saga.2 ⟨k',t',o',_,by(exact PM S)⟩⟩
theorem c2R(S:St h0 h (B5 p D u s::l)):∃L:Loc,L.p=p∧St h0 h (wkA L D u ⟨s,[]⟩::l):=by
 obtain⟨k,t,o,rs,S⟩:=St.saga.1 S
 obtain⟨vs,hv,S⟩:=St.rmas.1 S.p4
 obtain⟨A,c,rfl⟩:=S.sl
 have hl:vs.length=s.R.length:=by rw[←hv,l_z]
 refine⟨⟨p,k,t,o,A,c⟩,rfl,St.wk.2 ⟨.slice none 0 0,vs,hv,?_⟩⟩
 simp only
 rw[←hl]
 have S:St h0 h (i4 Msg.enc 6 128 (.slice none 0 0) []::i4 i0.enc 14 136 (.slice A vs.length c) vs::(vs.map j2++(d9 p (t8 D u k t o (.slice A vs.length c) (.slice none 0 0) s) 113::t6 k s.K::H2 t s.T::D8 o s.key s.O::l))):=S.nilS
 exact S.perm (b7b _ _ _ _ _ _ _ _)
end
end
end Go.Proofs.YtjagmebglhbdkaaGreat.MX
