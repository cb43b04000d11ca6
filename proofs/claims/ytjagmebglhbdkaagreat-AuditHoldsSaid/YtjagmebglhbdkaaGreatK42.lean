import Derived.Test.YtjagmebglhbdkaaGreatK41
namespace Go.Proofs.YtjagmebglhbdkaaGreat.MX
open Go Go.Proofs
set_option linter.unusedSimpArgs false
set_option linter.unusedVariables false
section
set_option maxHeartbeats 16000000
def b7l(J:Env→c9→Prop)(Q:D6→Env→c9→Prop):D6→Env→c9→Prop
 | .normal,ρ,h=>J ρ h
 | .exit i,ρ,h=>Q (.exit i) ρ h
 | .ret,ρ,h=>Q .ret ρ h
section
variable{J:Env→c9→Prop}{Q:D6→Env→c9→Prop}{ρ:Env}{h:c9}{i:Nat}
theorem c4s:b7l J Q .normal ρ h=J ρ h:=rfl
theorem c4r:b7l J Q (.exit i) ρ h=Q (.exit i) ρ h:=rfl
theorem c4t:b7l J Q .ret ρ h=Q .ret ρ h:=rfl
end
attribute [go_sem ↓] c4s c4r c4t
theorem b6z{P:Program}{b:Bool}{x y:j6}{Q:D6→Env→c9→Prop}{ρ:Env}{h:c9}{s:Tag (mwp P x Q ρ h)}{t:Tag (mwp P y Q ρ h)}(I:Env→c9→Prop)
  (hX:b=true→∀J:Env→c9→Prop,(∀ρ h,I ρ h→J ρ h)→mwp P x (b7l J Q) ρ h) (hY:b=false→∀J:Env→c9→Prop,(∀ρ h,I ρ h→J ρ h)→mwp P y (b7l J Q) ρ h) (hT:∀ρ h,I ρ h→Q .normal ρ h):
  X6 (.bool b) (mwp P x Q ρ h) (mwp P y Q ρ h) s t:=by
 have e:∀c:j6,mwp P c (b7l (Q .normal) Q) ρ h→mwp P c Q ρ h:=fun c=>I3 fun e ρ h hx=>by cases e<;>exact hx
 cases b
 ·simp only[X6,a0r,Bool.false_eq_true,if_false];exact e _ (hY rfl _ hT)
 ·simp only[X6,a0r,if_true];exact e _ (hX rfl _ hT)
theorem b0W{h0:c9}(x:j0)(hx:∀h' l,St h0 h' l→Arr i6 1 h' x.A x.c.us)(hxl:x.c.us.length<1000000):d8 Tryz.prog 47 [.agg x.enc.toArray] h0 fun v h'=>v= .bool (dcd x.c.formed)∧Fr h0 h' []:=by
 have S:=St.nil h0
 have hfit:x.c.fits=(if x.c.kind=1 then(1≤x.c.us.length∧x.c.us.length≤60)∧btw x.c.ord 0 255∧btw x.c.rea 0 255∧btw x.c.want 0 65535∧∀u∈x.c.us,btw u 0 255
  else if 2≤x.c.kind∧x.c.kind≤5 then btw x.c.rma 0 65535 else if x.c.kind=6 then btw x.c.rma 0 65535∧btw x.c.unit 0 255∧btw x.c.grade 0 255 else if x.c.kind=7 then btw x.c.days 0 65535 else if x.c.kind=8 then btw x.c.key 0 4294967295 else False):=rfl
 have hbar:x.c.bare=(if x.c.kind=1 then {x.c with ord:=0,us:=[],rea:=0,want:=0,cred:=false}else if 2≤x.c.kind∧x.c.kind≤5 then {x.c with rma:=0}else if x.c.kind=6 then {x.c with rma:=0,unit:=0,grade:=0}else if x.c.kind=7 then {x.c with days:=0}else if x.c.kind=8 then {x.c with key:=0,yes:=false}else x.c):=rfl
 refine EN i47.eq_1 fun K hK=>Wa ?_
 have hno:∀h' l,¬x.c.fits→St h0 h' l→K (.bool false) h':=fun h' l hn S=>hK _ _ ⟨by rw[dF fun h=>hn h.1],S.fr⟩
 (revert S;(try clear F);refine AL fun a h S F=> ?_)
 have FN:rdN h a 0 12=some x.enc:=v8 S.blk (l_a rfl)
 have hx12:x.enc.length=12:=rfl
 refine Wc @FN hx12 ?_
 refine tA S ?_
 clear S F FN
 intro b h S
 refine Wb hx12 ?_
 refine tS S rfl rfl (l_a rfl) ?_
 clear S
 intro h S
 have S:St h0 h [d9 b x.enc 44,d9 a x.enc 44]:=S
 have F:∀off,rd1 h (.pointer (some ⟨a,off,none⟩))=x.enc[off]? :=fun off=>j3 S.p1.blk
 refine Wc F @j0.enc.eq_1 ?_
 refine b6z (fun ρ' h'=>ρ' 3= .pointer (some ⟨b,0,none⟩)∧x.c.fits∧∃y:j0,y.c=x.c.bare∧St h0 h' [d9 b y.enc 44,d9 a x.enc 44]) ?_ ?_ ?_
 ·intro hb J hJ
  have k1:x.c.kind=1:=s7 hb
  rw[if_pos k1]at hfit hbar
  by_cases c0:(x.c.us.length:Int)<1
  ·refine Wd F @j0.enc.eq_1 c0 ?_
   exact hno _ _ (by rw[hfit];unfold btw;omega) S
  by_cases c1:60<(x.c.us.length:Int)
  ·refine We F @j0.enc.eq_1 c0 c1 ?_
   exact hno _ _ (by rw[hfit];unfold btw;omega) S
  by_cases c2:x.c.ord<0
  ·refine Wf F @j0.enc.eq_1 c0 c1 c2 ?_
   exact hno _ _ (by rw[hfit];unfold btw;omega) S
  by_cases c3:255<x.c.ord
  ·refine Wg F @j0.enc.eq_1 c0 c1 c2 c3 ?_
   exact hno _ _ (by rw[hfit];unfold btw;omega) S
  by_cases c4:x.c.rea<0
  ·refine Wh F @j0.enc.eq_1 c0 c1 c2 c3 c4 ?_
   exact hno _ _ (by rw[hfit];unfold btw;omega) S
  by_cases c5:255<x.c.rea
  ·refine Wi F @j0.enc.eq_1 c0 c1 c2 c3 c4 c5 ?_
   exact hno _ _ (by rw[hfit];unfold btw;omega) S
  by_cases c6:x.c.want<0
  ·refine Wi F @j0.enc.eq_1 c0 c1 c2 c3 c4 (Pc c5 c6) ?_
   exact hno _ _ (by rw[hfit];unfold btw;omega) S
  by_cases c7:65535<x.c.want
  ·refine Wi F @j0.enc.eq_1 c0 c1 c2 c3 c4 (Pd c5 c6 c7) ?_
   exact hno _ _ (by rw[hfit];unfold btw;omega) S
  refine Wi F @j0.enc.eq_1 c0 c1 c2 c3 c4 (Pd c5 c6 c7) ?_
  refine LKp (Nat.zero_add 0) [1,3,52] (fun ρ h'=>∃i:Nat,ρ 53= .int .i64 i∧i≤x.c.us.length∧(∀u∈x.c.us.take i,btw u 0 255)∧h'=h) (fun ρ _=>x.c.us.length-(iv (ρ 53)).toNat) ?_ ?_
  ·refine Wa ?_
   exact⟨0,rfl,by omega,by simp⟩
  rintro ρ h J2 ⟨e1,e3,e52⟩ hJ2 ⟨i,e53,hi,hall,rfl⟩
  refine Wc e52 e53 ?_
  refine cD (fun hlt=> ?_) (fun hlt=> ?_)
  ·have hil:i<x.c.us.length:=by omega
   obtain⟨b1,o1,hA1,q1⟩:=(hx _ _ S).at hil
   have q1:=rP0 q1 (by omega)
   simp only[i6,l_o,m9]at q1
   have hbad:¬btw x.c.us[i] 0 255→¬x.c.fits:=fun hn=>by
    rw[hfit]
    exact fun h=>hn (h.2.2.2.2 _ (l_v hil))
   have hgo:btw x.c.us[i] 0 255→∀u∈x.c.us.take (i+1),btw u 0 255:=fun hx r hr=>by
    rw[l_t hil]at hr
    rcases List.mem_append.1 hr with hr|hr
    ·exact hall r hr
    ·rw[U1]at hr;rw[hr];exact hx
   generalize x.c.us[i]=u at*
   by_cases u0:u<0
   ·refine Wi e1 e53 F @j0.enc.eq_1 hA1 q1 @m9 u0 ?_
    exact hno _ _ (hbad fun h=>by unfold btw at h;omega) S
   by_cases u1:255<u
   ·refine Wi e1 e53 F @j0.enc.eq_1 hA1 q1 @m9 (Pc u0 u1) ?_
    exact hno _ _ (hbad fun h=>by unfold btw at h;omega) S
   refine Wi e1 e53 F @j0.enc.eq_1 hA1 q1 @m9 (Pc u0 u1) ?_
   refine hJ2 _ _ ?_ ?_
   ·refine Wa ?_
    exact⟨i+1,rfl,by omega,hgo ⟨by omega,by omega⟩⟩
   ·refine Wb e53 ?_
    omega
  obtain rfl:i=x.c.us.length:=by omega
  rw[C9]at hall
  refine Wb e3 ?_
  clear F
  refine tS S rfl rfl (l_a rfl) ?_
  clear S
  intro h S
  refine Wb e3 ?_
  refine tS S rfl rfl (l_a rfl) ?_
  clear S
  intro h S
  refine Wb e3 ?_
  refine tS S rfl rfl (l_a rfl) ?_
  clear S
  intro h S
  refine Wb e3 ?_
  refine tS S rfl rfl (l_a rfl) ?_
  clear S
  intro h S
  refine Wb e3 ?_
  refine tS S rfl rfl (l_a rfl) ?_
  clear S
  intro h S
  refine Wb e3 ?_
  refine hJ _ _ ?_
  refine Wb e3 ?_
  refine⟨by rw[hfit];unfold btw;exact⟨by omega,by omega,by omega,by omega,hall⟩,⟨x.c.bare,none,0⟩,rfl,?_⟩
  rw[hbar]
  exact S
 ·intro hb J hJ
  have k1:¬x.c.kind=1:=y7 hb
  rw[if_neg k1]at hfit hbar
  by_cases k25:2≤x.c.kind∧x.c.kind≤5
  ·rw[if_pos k25]at hfit hbar
   have hk:x.c.kind=2∨x.c.kind=3∨x.c.kind=4∨x.c.kind=5:=by omega
   rcases hk with k2|k2|k2|k2
   all_goals
    refine Wb k2 ?_
    refine tS S rfl rfl (l_a rfl) ?_
    clear S F
    intro h S
    have F:∀off,rd1 h (.pointer (some ⟨a,off,none⟩))=x.enc[off]? :=fun off=>j3 S.p1.blk
    by_cases c0:x.c.rma<0
    ·refine Wd F @j0.enc.eq_1 c0 ?_
     exact hno _ _ (by rw[hfit];unfold btw;omega) S
    by_cases c1:65535<x.c.rma
    ·refine We F @j0.enc.eq_1 c0 c1 ?_
     exact hno _ _ (by rw[hfit];unfold btw;omega) S
    refine We F @j0.enc.eq_1 c0 c1 ?_
    refine hJ _ _ ?_
    refine Wa ?_
    refine⟨by rw[hfit];exact⟨by omega,by omega⟩,⟨x.c.bare,x.A,x.n⟩,rfl,?_⟩
    rw[hbar]
    exact S
  rw[if_neg k25]at hfit hbar
  have n2:¬x.c.kind=2:=by omega
  have n3:¬x.c.kind=3:=by omega
  have n4:¬x.c.kind=4:=by omega
  have n5:¬x.c.kind=5:=by omega
  by_cases k6:x.c.kind=6
  ·rw[if_pos k6]at hfit hbar
   (try simp(disch:=first|omega|assumption|exact l_a rfl) only[go_sem,↓wBk,simprocAttr,n2,n3,n4,n5,eq_true k6])
   clear F
   refine tS S rfl rfl (l_a rfl) ?_
   clear S
   intro h S
   refine Wa ?_
   refine tS S rfl rfl (l_a rfl) ?_
   clear S
   intro h S
   refine Wa ?_
   refine tS S rfl rfl (l_a rfl) ?_
   clear S
   intro h S
   have F:∀off,rd1 h (.pointer (some ⟨a,off,none⟩))=x.enc[off]? :=fun off=>j3 S.p1.blk
   by_cases c0:x.c.rma<0
   ·refine Wd F @j0.enc.eq_1 c0 ?_
    exact hno _ _ (by rw[hfit];unfold btw;omega) S
   by_cases c1:65535<x.c.rma
   ·refine We F @j0.enc.eq_1 c0 c1 ?_
    exact hno _ _ (by rw[hfit];unfold btw;omega) S
   by_cases c2:x.c.unit<0
   ·refine Wf F @j0.enc.eq_1 c0 c1 c2 ?_
    exact hno _ _ (by rw[hfit];unfold btw;omega) S
   by_cases c3:255<x.c.unit
   ·refine Wg F @j0.enc.eq_1 c0 c1 c2 c3 ?_
    exact hno _ _ (by rw[hfit];unfold btw;omega) S
   by_cases c4:x.c.grade<0
   ·refine Wh F @j0.enc.eq_1 c0 c1 c2 c3 c4 ?_
    exact hno _ _ (by rw[hfit];unfold btw;omega) S
   by_cases c5:255<x.c.grade
   ·refine Wi F @j0.enc.eq_1 c0 c1 c2 c3 c4 c5 ?_
    exact hno _ _ (by rw[hfit];unfold btw;omega) S
   refine Wi F @j0.enc.eq_1 c0 c1 c2 c3 c4 c5 ?_
   refine hJ _ _ ?_
   refine Wa ?_
   refine⟨by rw[hfit];unfold btw;omega,⟨x.c.bare,x.A,x.n⟩,rfl,?_⟩
   rw[hbar]
   exact S
  rw[if_neg k6]at hfit hbar
  by_cases k7:x.c.kind=7
  ·rw[if_pos k7]at hfit hbar
   (try simp(disch:=first|omega|assumption|exact l_a rfl) only[go_sem,↓wBk,simprocAttr,n2,n3,n4,n5,k6,eq_true k7])
   clear F
   refine tS S rfl rfl (l_a rfl) ?_
   clear S
   intro h S
   have F:∀off,rd1 h (.pointer (some ⟨a,off,none⟩))=x.enc[off]? :=fun off=>j3 S.p1.blk
   by_cases c0:x.c.days<0
   ·refine Wd F @j0.enc.eq_1 c0 ?_
    exact hno _ _ (by rw[hfit];unfold btw;omega) S
   by_cases c1:65535<x.c.days
   ·refine We F @j0.enc.eq_1 c0 c1 ?_
    exact hno _ _ (by rw[hfit];unfold btw;omega) S
   refine We F @j0.enc.eq_1 c0 c1 ?_
   refine hJ _ _ ?_
   refine Wa ?_
   refine⟨by rw[hfit];unfold btw;omega,⟨x.c.bare,x.A,x.n⟩,rfl,?_⟩
   rw[hbar]
   exact S
  rw[if_neg k7]at hfit hbar
  by_cases k8:x.c.kind=8
  ·rw[if_pos k8]at hfit hbar
   (try simp(disch:=first|omega|assumption|exact l_a rfl) only[go_sem,↓wBk,simprocAttr,n2,n3,n4,n5,k6,k7,eq_true k8])
   clear F
   refine tS S rfl rfl (l_a rfl) ?_
   clear S
   intro h S
   refine Wa ?_
   refine tS S rfl rfl (l_a rfl) ?_
   clear S
   intro h S
   have F:∀off,rd1 h (.pointer (some ⟨a,off,none⟩))=x.enc[off]? :=fun off=>j3 S.p1.blk
   by_cases c0:x.c.key<0
   ·refine Wd F @j0.enc.eq_1 c0 ?_
    exact hno _ _ (by rw[hfit];unfold btw;omega) S
   by_cases c1:4294967295<x.c.key
   ·refine We F @j0.enc.eq_1 c0 c1 ?_
    exact hno _ _ (by rw[hfit];unfold btw;omega) S
   refine We F @j0.enc.eq_1 c0 c1 ?_
   refine hJ _ _ ?_
   refine Wa ?_
   refine⟨by rw[hfit];unfold btw;omega,⟨x.c.bare,x.A,x.n⟩,rfl,?_⟩
   rw[hbar]
   exact S
  rw[if_neg k8]at hfit hbar
  refine Wh n2 n3 n4 n5 k6 k7 k8 ?_
  exact hno _ _ (by rw[hfit];exact fun h=>h) S
 clear S F
 rintro ρ h ⟨e3,hf,y,hy,S⟩
 have hdef:x.c.formed↔y.c.nought:=by rw[hy];exact⟨fun h=>h.2,fun h=>⟨hf,h⟩⟩
 have hn:∀h' l,¬y.c.nought→St h0 h' l→K (.bool false) h':=fun h' l hn S=>hK _ _ ⟨by rw[dF fun h=>hn (hdef.1 h)],S.fr⟩
 have F:∀off,rd1 h (.pointer (some ⟨b,off,none⟩))=y.enc[off]? :=fun off=>j3 S.blk
 have hK2:=hK
 clear hK hno hfit hbar hy
 by_cases z0:y.c.ord=0
 case neg=>
  refine We e3 F @j0.enc.eq_1 z0 ?_
  exact hn _ _ (fun h=>z0 h.1) S
 by_cases z1:(y.c.us.length:Int)=0
 case neg=>
  refine Wf e3 F @j0.enc.eq_1 z0 z1 ?_
  exact hn _ _ (fun h=>z1 (by rw[h.2.1];rfl)) S
 by_cases z2:y.c.rea=0
 case neg=>
  refine Wg e3 F @j0.enc.eq_1 z0 z1 z2 ?_
  exact hn _ _ (fun h=>z2 h.2.2.1) S
 by_cases z3:y.c.want=0
 case neg=>
  refine Wh e3 F @j0.enc.eq_1 z0 z1 z2 z3 ?_
  exact hn _ _ (fun h=>z3 h.2.2.2.1) S
 cases z4:y.c.cred
 case true=>
  refine Wi e3 F @j0.enc.eq_1 z0 z1 z2 z3 z4 ?_
  exact hn _ _ (fun h=>by have:=h.2.2.2.2.1;rw[z4]at this;cases this) S
 by_cases z5:y.c.rma=0
 case neg=>
  refine Wi e3 F @j0.enc.eq_1 z0 z1 z2 z3 (Pc z4 z5) ?_
  exact hn _ _ (fun h=>z5 h.2.2.2.2.2.1) S
 by_cases z6:y.c.unit=0
 case neg=>
  refine Wi e3 F @j0.enc.eq_1 z0 z1 z2 z3 (Pd z4 z5 z6) ?_
  exact hn _ _ (fun h=>z6 h.2.2.2.2.2.2.1) S
 by_cases z7:y.c.grade=0
 case neg=>
  refine Wi e3 F @j0.enc.eq_1 z0 z1 z2 z3 (Pe z4 z5 z6 z7) ?_
  exact hn _ _ (fun h=>z7 h.2.2.2.2.2.2.2.1) S
 by_cases z8:y.c.days=0
 case neg=>
  refine Wi e3 F @j0.enc.eq_1 z0 z1 z2 z3 (Pf z4 z5 z6 z7 z8) ?_
  exact hn _ _ (fun h=>z8 h.2.2.2.2.2.2.2.2.1) S
 by_cases z9:y.c.key=0
 case neg=>
  refine Wi e3 F @j0.enc.eq_1 z0 z1 z2 z3 (Pf z4 z5 z6 z7 (Pc z8 z9)) ?_
  exact hn _ _ (fun h=>z9 h.2.2.2.2.2.2.2.2.2.1) S
 cases z10:y.c.yes
 case true=>
  refine Wi e3 F @j0.enc.eq_1 z0 z1 z2 z3 (Pf z4 z5 z6 z7 (Pd z8 z9 z10)) ?_
  exact hn _ _ (fun h=>by have:=h.2.2.2.2.2.2.2.2.2.2;rw[z10]at this;cases this) S
 refine Wi e3 F @j0.enc.eq_1 z0 z1 z2 z3 (Pf z4 z5 z6 z7 (Pd z8 z9 z10)) ?_
 refine hK2 _ _ ⟨?_,S.fr⟩
 rw[dT (hdef.2 ⟨z0,a7w (by omega),z2,z3,z4,z5,z6,z7,z8,z9,z10⟩)]
end
section
set_option maxHeartbeats 16000000
theorem c0L{D:Cfg}{U:List Unt}{w:Wk}{m:Nat}(hD:Stc D U){days:Int}(I:Inv D U w 1000 0)(Wf:w.wf U m)(hm:m<100000)(hd:¬(days<1∨1000<days))(hn:¬100000<w.s.now+days):(a3C D.ss U w days).2.length≤300000:=by
 have hnow:=Wf.now
 obtain⟨now,hno⟩:∃now,now=w.s.now+days:=⟨_,rfl⟩
 obtain⟨w0,hw0⟩:∃w0:Wk,w0={w with s:={w.s with now:=now,T:=O1 w.s.T now} }:=⟨_,rfl⟩
 have hTT:w.s.T=O8 w.s.T now++O1 w.s.T now:=(List.takeWhile_append_dropWhile).symm
 have hall:=Wf.tg.2
 rw[hTT,a1o]at hall
 have I0:Inv D U w0 1000 0:=a2B I (f:=id) (p:=fun _=>true) (by rw[hw0]) (by rw[hw0]) (by rw[hw0]) (fun x hx=>by rw[hw0]at hx;exact(List.dropWhile_sublist _).subset hx) (fun _=>⟨rfl,rfl,rfl⟩) (fun _ _ h=>by simp at h) (by rw[hw0,List.map_id,List.filter_eq_self.2 (fun _ _=>rfl)])
 have W0:w0.wf U m:=by rw[hw0];exact Wf.late (by omega)
 obtain⟨-,-,c⟩:=a2w hD (l:=(O8 w.s.T now).map Tm.num) I0 W0 (by
  rw[List.Nodup,List.pairwise_map]
  exact hall.1) (fun n hn=>by
   obtain⟨y,hy,rfl⟩:=List.mem_map.1 hn
   have h1:=Wf.tn y (by rw[hTT];exact Y0 _ hy)
   refine⟨by rw[hw0];exact h1,fun x hx he=> ?_⟩
   rw[hw0]at hx
   exact hall.2.2 y hy x hx he.symm)
 have hl:((O8 w.s.T now).map Tm.num).length≤100:=by
  rw[l_z]
  have:=(List.takeWhile_sublist (l:=w.s.T) (fun x=>decide (x.day≤now))).length_le
  have:=Wf.tl
  unfold O8
  omega
 have h1:(a3C D.ss U w days).2=A9 now (((O8 w.s.T now).map Tm.num).foldl (P7 D.ss U) w0).s.O:=by rw[hw0,hno];rfl
 have h2:(A9 now (((O8 w.s.T now).map Tm.num).foldl (P7 D.ss U) w0).s.O).length≤(((O8 w.s.T now).map Tm.num).foldl (P7 D.ss U) w0).s.O.length:=F6 (K9 now) (a4T now) _
 have:=c.ol
 rw[h1]
 omega
theorem c1T{D:Cfg}{U:List Unt}{w:Wk}{m:Nat}(hD:Stc D U){c:Cmd}(I:Inv D U w 1000 0)(Wf:w.wf U m)(hm:m<100000){y:Int×List Msg×Wk}(h:doQ D U w c= .ok y):y.2.1.length≤300000:=by
 unfold doQ at h
 split at h
 ·obtain⟨z,-,rfl⟩:=u4 h;exact Nat.zero_le _
 ·split at h
  ·split at h
   ·cases h
   ·split at h
    ·cases h
    ·cases h
     exact c0L hD I Wf hm (by assumption) (by assumption)
  ·split at h
   ·split at h
    ·cases h
    ·cases h;exact Nat.zero_le _
   ·unfold onR at h
    split at h
    ·cases h
    ·obtain⟨z,-,rfl⟩:=u4 h;exact Nat.zero_le _
section
variable{h0 h:c9}{l:List HP}{L:V3}{C:Cfg}{w:Wk}{U:List Unt}{m n b i:Nat}{k t o sd:Value}{vs:List i0}{X:List HP}{u:Value}
theorem St.moClose(hv:vs.map i0.r=w.s.R)(S:St h0 h (X++moL L C u w k t o sd vs l)):St h0 h (n9 L C u w::(X++l)):=
 St.mo.2 ⟨k,t,o,sd,vs,hv,S.perm (List.perm_append_comm_assoc X (_::_::_::_::_::_::vs.map j2) l)⟩
variable{Au:Option Addr}{cu:Nat}
theorem b7K(S:St h0 h (n9 L C (.slice Au U.length cu) w::l))(W:w.wf U m)(hm:m<500000)(hul:U.length≤200):d8 Tryz.prog 48 [.pointer (some ⟨L.p,0,none⟩)] h fun v h'=>
  ∃L':V3,v= .pointer (some ⟨L'.p,0,none⟩)∧St h0 h' (n9 L' C (.slice Au U.length cu) ⟨w.s,[]⟩::n9 L C (.slice Au U.length cu) w::l):=by
 have hkl:=W.kl
 have htl:=W.tl
 have hol:=W.ol
 have hrl:=W.rl
 obtain⟨k,t,o,sd,vs,hv,S⟩:=St.mo.1 S
 obtain⟨Ak,ck,rfl⟩:=(St.p1 S).sl
 obtain⟨At,ct,rfl⟩:=(St.p2 S).sl
 obtain⟨Ao,co,rfl⟩:=(St.p3 S).sl
 obtain⟨As,cs,rfl⟩:=(St.p5 S).sl
 have hvl:vs.length=w.s.R.length:=by rw[←hv,l_z]
 obtain⟨M,hM⟩:∃M,M=moL L C (.slice Au U.length cu) w (.slice Ak w.s.K.length ck) (.slice At w.s.T.length ct) (.slice Ao w.s.O.length co) (.slice As w.sd.length cs) vs l:=⟨_,rfl⟩
 rw[←hM]at S
 have hF:∀{h':c9},St h0 h' M→∀off,rd1 h' (.pointer (some ⟨L.p,off,none⟩))=(x6 C (.slice Au U.length cu) (.slice Ak w.s.K.length ck) (.slice L.A w.s.R.length L.c) (.slice At w.s.T.length ct) (.slice Ao w.s.O.length co) (.slice As w.sd.length cs) w.s)[off]? :=fun S=>by rw[hM]at S;exact S.moF
 have hKa:∀{h':c9},St h0 h' M→Arr KU.enc 4 h' Ak w.s.K:=fun S=>by rw[hM]at S;exact(St.p1 S).arr KU.enc_len
 have hTa:∀{h':c9},St h0 h' M→Arr tmE 2 h' At w.s.T:=fun S=>by rw[hM]at S;exact(St.p2 S).arr s9
 have hOa:∀{h':c9},St h0 h' M→Arr Msg.enc 6 h' Ao w.s.O:=fun S=>by rw[hM]at S;exact(St.p3 S).arr enc_len
 have FN:rdN h L.p 0 16=some (x6 C (.slice Au U.length cu) (.slice Ak w.s.K.length ck) (.slice L.A w.s.R.length L.c) (.slice At w.s.T.length ct) (.slice Ao w.s.O.length co) (.slice As w.sd.length cs) w.s):=by rw[hM]at S;exact v8 (St.blk S) (l_a rfl)
 refine EN i48.eq_1 fun K hK=> ?_
 refine Wc @FN @x6.eq_1 ?_
 refine tA S ?_
 clear S FN
 intro p h S
 refine Wa ?_
 refine tS S rfl rfl (l_a rfl) ?_
 clear S
 intro h S
 refine Wa ?_
 refine tA S ?_
 clear S
 intro g h S
 replace S:=S.nm
 have S:=S.cellOwn (enc:=KU.enc) (sz:=4) (ys:=[]) KU.enc_len rfl (by decide)
 have F:=hF S.tl.tl
 refine Wc F @x6.eq_1 ?_
 refine tAp (bytes:=24) (xs:=[]) (ys:=w.s.K) KU.enc_len (by omega) KU.enc_plain rfl S rfl (E9 KU.enc_len (hKa S.tl.tl) rfl) (by simp;omega) (by simp;omega) ?_
 clear S F
 intro k2 h S
 rw[l_k]at S
 obtain⟨Ak2,ck2,rfl⟩:=S.sl
 refine Wa ?_
 refine tS S.p1 rfl rfl (l_a rfl) ?_
 clear S
 intro h S
 refine Wa ?_
 refine tA S ?_
 clear S
 intro g h S
 have S:=S.cellOwn (enc:=tmE) (sz:=2) (ys:=[]) s9 rfl (by decide)
 have F:=hF S.tl.tl.tl
 refine Wc F @x6.eq_1 ?_
 refine tAp (bytes:=16) (xs:=[]) (ys:=w.s.T) s9 (by omega) H5 rfl S rfl (E9 s9 (hTa S.tl.tl.tl) rfl) (by simp;omega) (by simp;omega) ?_
 clear S F
 intro t2 h S
 rw[l_k]at S
 obtain⟨At2,ct2,rfl⟩:=S.sl
 refine Wa ?_
 refine tS S.p1 rfl rfl (l_a rfl) ?_
 clear S
 intro h S
 refine Wa ?_
 refine tA S ?_
 clear S
 intro g h S
 have S:=S.cellOwn (enc:=Msg.enc) (sz:=6) (ys:=[]) enc_len rfl (by decide)
 have F:=hF S.tl.tl.tl.tl
 refine Wc F @x6.eq_1 ?_
 refine tAp (bytes:=48) (xs:=[]) (ys:=w.s.O) enc_len (by omega) enc_plain rfl S rfl (E9 enc_len (hOa S.tl.tl.tl.tl) rfl) (by simp;omega) (by simp;omega) ?_
 clear S F
 intro o2 h S
 rw[l_k]at S
 obtain⟨Ao2,co2,rfl⟩:=S.sl
 refine Wa ?_
 refine tS S.p1 rfl rfl (l_a rfl) ?_
 clear S
 intro h S
 refine Wa ?_
 refine tS S rfl rfl (l_a rfl) ?_
 clear S
 intro h S
 refine Wa ?_
 refine tS S rfl rfl (l_a rfl) ?_
 clear S
 intro h S
 have S:St h0 h (d9 p (x6 C (.slice Au U.length cu) (.slice Ak2 w.s.K.length ck2) (.slice none 0 0) (.slice At2 w.s.T.length ct2) (.slice Ao2 w.s.O.length co2) (.slice none 0 0) w.s) 68::i4 Msg.enc 6 127 (.slice Ao2 w.s.O.length co2) w.s.O::i4 tmE 2 139 (.slice At2 w.s.T.length ct2) w.s.T::i4 KU.enc 4 76 (.slice Ak2 w.s.K.length ck2) w.s.K::M):=S
 have F:=hF S.tl.tl.tl.tl
 refine Wc F @x6.eq_1 ?_
 refine LKp (Nat.zero_add 0) [0,3,36] (fun ρ h'=>∃(j:Nat) (r':Value) (zs:List i0),ρ 37= .int .i64 j∧j≤w.s.R.length∧zs.map i0.r=w.s.R.take j∧St h0 h' (d9 p (x6 C (.slice Au U.length cu) (.slice Ak2 w.s.K.length ck2) r' (.slice At2 w.s.T.length ct2) (.slice Ao2 w.s.O.length co2) (.slice none 0 0) w.s) 68::
  i4 i0.enc 14 70 r' zs::(zs.map j2++(i4 Msg.enc 6 127 (.slice Ao2 w.s.O.length co2) w.s.O::i4 tmE 2 139 (.slice At2 w.s.T.length ct2) w.s.T::i4 KU.enc 4 76 (.slice Ak2 w.s.K.length ck2) w.s.K::M)))) (fun ρ _=>w.s.R.length-(iv (ρ 37)).toNat) ?_ ?_
 ·refine Wa ?_
  exact⟨0,_,[],rfl,by omega,by simp,St.p1 S.nilS⟩
 clear S F
 rintro ρ h J ⟨e0,e3,e36⟩ hJ ⟨j,r',zs,e37,hj,hz,S⟩
 have hzl:zs.length=j:=by rw[←l_z (f:=i0.r),hz,x4];omega
 refine Wc e36 e37 ?_
 refine cD (fun hlt=> ?_) (fun hlt=> ?_)
 ·have hjl:j<w.s.R.length:=by omega
  have hjv:j<vs.length:=by omega
  obtain⟨Ar,cr,rfl⟩:=S.p1.sl
  have hRj:vs[j].r=w.s.R[j]:=by simp only[←hv,Y9]
  have hMb:∀{h':c9},St h0 h' M→∃b,L.A=some ⟨b,0,none⟩∧rdN h' b (j*14) 14=some vs[j].enc:=fun S=>by
   rw[hM]at S
   obtain⟨b,hb⟩:=(St.p4 S).ownAt (by omega)
   obtain⟨b',o',e,q⟩:=((St.p4 S).arr i0.enc_len).at hjv
   rw[hb]at e
   cases e
   rw[Nat.zero_add]at q
   exact⟨b,hb,q⟩
  have hMa:∀{h':c9},St h0 h' M→Arr i6 1 h' vs[j].A vs[j].r.us∧Arr i6 1 h' vs[j].B vs[j].r.gs:=fun S=>by
   rw[hM]at S
   exact K4 S (x:=vs[j]) (by simp only[moL,l_e,l_y];exact .inr (.inr (.inr (.inr (.inr (.inr (.inl (a0I (l_v hjv)))))))))
  obtain⟨b,hLA,q14⟩:=hMb S.tl.tl.dropL.tl.tl.tl
  have F:=hF S.tl.tl.dropL.tl.tl.tl
  rw[hLA]at F
  have hxl:=W.len _ (l_v hjl)
  rw[←hRj]at hxl
  have hz2:∀y:i0,y.r=vs[j].r→(zs++ [y]).map i0.r=w.s.R.take (j+1):=fun y hy=>by
   rw[l_t hjl,L7,hz,←hRj,←hy]
   rfl
  generalize vs[j]=x at*
  have hx14:x.enc.length=14:=rfl
  refine Wg e0 e37 F @x6.eq_1 q14 hx14 ?_
  refine tA S ?_
  clear S F q14 hMb
  intro q h S
  refine Wb hx14 ?_
  refine tS S rfl rfl (l_a rfl) ?_
  clear S
  intro h S
  have S:St h0 h (d9 q x.enc 70::_):=S
  refine Wa ?_
  refine tA S ?_
  clear S
  intro g h S
  have S:=S.cellOwn (enc:=i6) (sz:=1) (ys:=[]) zEl rfl (by decide)
  have F:∀off,rd1 h (.pointer (some ⟨q,off,none⟩))=x.enc[off]? :=fun off=>j3 S.p1.blk
  refine Wc F @i0.enc.eq_1 ?_
  refine tAp (bytes:=8) (xs:=[]) (ys:=x.r.us) zEl (by omega) zEp rfl S rfl (E9 zEl (hMa S.tl.tl.tl.tl.dropL.tl.tl.tl).1 rfl) (by simp;omega) (by simp;omega) ?_
  clear S F
  intro v h S
  rw[l_k]at S
  obtain⟨A1,c1,rfl⟩:=S.sl
  refine Wa ?_
  refine tS S.p1 rfl rfl (l_a rfl) ?_
  clear S
  intro h S
  have S:St h0 h (d9 q (i0.enc {x with A:=A1,c:=c1}) 70::_):=S
  refine Wa ?_
  refine tA S ?_
  clear S
  intro g h S
  have S:=S.cellOwn (enc:=i6) (sz:=1) (ys:=[]) zEl rfl (by decide)
  have F:∀off,rd1 h (.pointer (some ⟨q,off,none⟩))=(i0.enc {x with A:=A1,c:=c1})[off]? :=fun off=>j3 S.p1.blk
  refine Wc F @i0.enc.eq_1 ?_
  refine tAp (bytes:=8) (xs:=[]) (ys:=x.r.gs) zEl (by omega) zEp rfl S rfl (E9 zEl (hMa S.tl.tl.tl.tl.tl.dropL.tl.tl.tl).2 rfl) (by simp;omega) (by simp;omega) ?_
  clear S F
  intro v h S
  rw[l_k]at S
  obtain⟨B1,d1,rfl⟩:=S.sl
  refine Wa ?_
  refine tS S.p1 rfl rfl (l_a rfl) ?_
  clear S
  intro h S
  have key:∀T:List HP,St h0 h (d9 q (v5 (i0.enc {x with A:=A1,c:=c1}) 9 [.slice B1 x.r.gs.length d1]) 70::i4 i6 1 3 (.slice B1 x.r.gs.length d1) x.r.gs::i4 i6 1 3 (.slice A1 x.r.us.length c1) x.r.us::T)→
    ∃y:i0,y.r=x.r∧St h0 h (d9 q y.enc 70::i4 i6 1 3 (.slice y.B y.r.gs.length y.d) y.r.gs::i4 i6 1 3 (.slice y.A y.r.us.length y.c) y.r.us::T):=fun T S=>⟨⟨x.r,A1,c1,B1,d1⟩,rfl,S⟩
  obtain⟨y,hyr,S⟩:=key _ S
  clear key hMa
  have hy14:y.enc.length=14:=rfl
  have F:rd1 h (.pointer (some ⟨p,10,none⟩))=some (.slice Ar zs.length cr):=by rw[j3 S.p3.blk];rfl
  have FN:rdN h q 0 14=some y.enc:=by rw[v8 S.blk (l_a rfl)];rfl
  refine We e3 F @FN hy14 ?_
  refine tA S ?_
  clear S F FN
  intro b1 h S
  refine Wa ?_
  refine tA1 (bytes:=144) (x:=y) (xs:=zs) i0.enc_len (by omega) i0.enc_plain rfl rfl S.p5.p1 (by omega) (by omega) ?_
  clear S
  intro v h S
  obtain⟨A2,c2,rfl⟩:=S.sl
  refine Wb e3 ?_
  refine tS S.p4 rfl rfl (l_a rfl) ?_
  clear S
  intro h S
  refine Wb e37 ?_
  refine hJ _ _ ?_ ?_
  ·refine Wa ?_
   refine⟨j+1,.slice A2 (zs++ [y]).length c2,zs++ [y],rfl,by omega,hz2 y hyr,?_⟩
   have S1:=St.star.2 S.p2.tl.p3.p3.p1
   exact c2Q (F:=j2) [_] S1
  ·refine Wb e37 ?_
   omega
 obtain rfl:j=w.s.R.length:=by omega
 rw[C9]at hz
 obtain⟨A',c',rfl⟩:=S.p1.sl
 refine Wb e3 ?_
 rw[hzl]at S
 refine hK _ _ ⟨⟨p,A',c'⟩,rfl,?_⟩
 rw[hM]at S
 have S1:=St.moClose (X:=_::_::(zs.map j2++ [_,_,_])) hv (S:=by
  have e:∀(rows Y:List HP) (a b c:HP),rows++(a::b::c::Y)=(rows++ [a,b,c])++Y:=fun rows Y a b c=>by rw[l_q];rfl
  rw[e]at S
  exact S)
 have e1:∀(rows Y:List HP) (a b c:HP),((rows++ [a,b,c])++Y).Perm (a::b::c::(rows++Y)):=fun rows Y a b c=>by
  rw[l_q]
  exact List.perm_append_comm_assoc rows [a,b,c] Y
 have S2:=S1.perm (List.Perm.cons _ (List.Perm.cons _ (List.Perm.cons _ (e1 _ _ _ _ _))))
 have S3:St h0 h (i4 Msg.enc 6 127 (.slice none 0 0) []::_):=S2.nilS
 refine St.mo.2 ⟨.slice Ak2 w.s.K.length ck2,.slice At2 w.s.T.length ct2,.slice Ao2 w.s.O.length co2,.slice none 0 0,zs,hz,?_⟩
 have S4:St h0 h (d9 p (x6 C (.slice Au U.length cu) (.slice Ak2 w.s.K.length ck2) (.slice A' w.s.R.length c') (.slice At2 w.s.T.length ct2) (.slice Ao2 w.s.O.length co2) (.slice none 0 0) w.s) 68::i4 KU.enc 4 76 (.slice Ak2 w.s.K.length ck2) w.s.K::i4 tmE 2 139 (.slice At2 w.s.T.length ct2) w.s.T::i4 Msg.enc 6 127 (.slice Ao2 w.s.O.length co2) w.s.O::
  i4 i0.enc 14 70 (.slice A' w.s.R.length c') zs::i4 Msg.enc 6 127 (.slice none 0 0) []::n9 L C (.slice Au U.length cu) w::(zs.map j2++l)):=by(exact PM S3)
 exact S4.perm (List.Perm.append_left [_,_,_,_,_,_] List.perm_middle.symm)
end
end
section
set_option maxHeartbeats 16000000
section
variable{h0 h:c9}{l:List HP}{L:V3}{C:Cfg}{sg:Sag}{U:List Unt}{m:Nat}{Au:Option Addr}{cu:Nat}
theorem b7W(x:j0)(hc:∀h',St h0 h' l→C.rd h')(hu:∀h',St h0 h' l→Arr Unt.enc 4 h' Au U)(hx:∀h',St h0 h' l→Arr i6 1 h' x.A x.c.us)(hxl:x.c.us.length<1000000)(hD:Stc C U)(I:Inv C U ⟨sg,[]⟩ 1000 0)(hkd:sg.O.Pairwise fun a b=>a.key≠b.key)
  (S:St h0 h (n9 L C (.slice Au U.length cu) ⟨sg,[]⟩::l)) (W:sg.wf U m) (hm:m<90000):
  d8 Tryz.prog 16 [.pointer (some ⟨L.p,0,none⟩),.agg x.enc.toArray] h fun v h'=>∃(L':V3) (s:Value),v= .tuple #[.pointer (some ⟨L'.p,0,none⟩),.int .i64 (a4Y C U sg x.c).1,s,.int .i64 (a4Y C U sg x.c).2.2.1]∧
   St h0 h' (i4 Msg.enc 6 127 s (a4Y C U sg x.c).2.1::n9 L' C (.slice Au U.length cu) ⟨(a4Y C U sg x.c).2.2.2,[]⟩::l):=by
 have hul:=hD.ul
 have hd:a4Y C U sg x.c=if dcd x.c.formed=false then(0,[],1,sg)else match doQ C U ⟨sg,[]⟩ x.c with
  | .error e=>(0,[],e,sg)
  | .ok x=>(x.1,x.2.2.sd++x.2.1,0,x.2.2.s):=rfl
 generalize a4Y C U sg x.c=Y at*
 refine EN i16.eq_1 fun K hK=>Wa ?_
 (revert S;(try clear F);refine AL fun g h S F=> ?_)
 have S:St h0 h (n9 L C (.slice Au U.length cu) ⟨sg,[]⟩::d9 g x.enc 44::l):=S.p1
 have FN:rdN h g 0 12=some x.enc:=v8 S.p1.blk (l_a rfl)
 have hx12:x.enc.length=12:=rfl
 refine Wc @FN hx12 ?_
 have ha:=hx _ S.tl.tl
 refine cI (b0W x (fun h' l' S'=>ha.fr S'.fr (by simp)) hxl) ?_
 clear FN ha F
 rintro _ h ⟨rfl,f1⟩
 have S:=S.frame f1
 clear f1
 by_cases hf:x.c.formed
 case neg=>
  rw[if_pos (dF hf)]at hd
  rw[dF hf]
  refine Wa ?_
  refine hK _ _ ⟨L,_,by rw[hd],?_⟩
  rw[hd]
  exact S.d1.nilS
 rw[if_neg (by rw[dT hf];decide)]at hd
 rw[dT hf]
 refine Wa ?_
 refine cI (b7K S W (by omega) hul) ?_
 clear S
 rintro _ h ⟨L1,rfl,S⟩
 have FN:rdN h g 0 12=some x.enc:=v8 S.p2.blk (l_a rfl)
 refine Wc @FN hx12 ?_
 refine cI (c3P x (fun h' S=>hc h' S.tl.tl) (fun h' S=>hu h' S.tl.tl) (fun h' S=>hx h' S.tl.tl) hD hf I hkd S W (by omega)) ?_
 clear FN S
 cases hy:doQ C U ⟨sg,[]⟩ x.c with
 |error e=>
  rw[hy]at hd
  rintro _ h ⟨he,⟨a1,a2,rfl⟩,S⟩
  refine Wb he ?_
  refine hK _ _ ⟨L,_,by rw[hd],?_⟩
  rw[hd]
  exact S.d1.nilS
 |ok y=>
  rw[hy]at hd
  have hlen:=c1T hD I W (by omega) hy
  have W1:=b8G (D:=C) (U:=U) (w:=⟨sg,[]⟩) (c:=x.c) (x:=y) (m:=m) hul (fun e=>by
   have:=hf.1
   rw[Cmd.fits,if_pos e]at this
   omega) (by rw[c3t hD I W hf];exact hy) W
  obtain⟨n,ag,w1⟩:=y
  simp only at hd hlen W1
  have hsl:=W1.sl
  rintro _ h ⟨s2,rfl,A,c,S⟩
  simp only at S
  obtain⟨A2,c2,rfl⟩:=S.sl
  obtain⟨k,t,o,sd,vs,hv,S⟩:=St.mo.1 S.p1
  obtain⟨As,cs,rfl⟩:=(St.p5 S).sl
  have F:rd1 h (.pointer (some ⟨L1.p,15,none⟩))=some (.slice As w1.sd.length cs):=S.moF 15
  refine Wa ?_
  refine tA S ?_
  have hF:∀{h':c9}{X:HP},St h0 h' (X::moL {L1 with A:=A,c:=c} C (.slice Au U.length cu) w1 k t o (.slice As w1.sd.length cs) vs (i4 Msg.enc 6 127 (.slice A2 ag.length c2) ag::n9 L C (.slice Au U.length cu) ⟨sg,[]⟩::d9 g x.enc 44::l))→rd1 h' (.pointer (some ⟨L1.p,15,none⟩))=some (.slice As w1.sd.length cs):=fun S=>S.tl.moF 15
  clear S F
  intro b h S
  have S:=S.cellOwn (enc:=Msg.enc) (sz:=6) (ys:=[]) enc_len rfl (by decide)
  have F:=hF S
  refine Wb F ?_
  refine tAp (bytes:=48) (xs:=[]) (ys:=w1.sd) enc_len (by omega) enc_plain rfl S rfl (E9 enc_len ((St.p5 S.tl).arr enc_len) rfl) (by simp;omega) (by simp;omega) ?_
  clear S F hF
  intro v h S
  rw[l_k]at S
  refine Wa ?_
  have hag:=(St.mo.2 ⟨k,t,o,_,vs,hv,S.tl⟩:St h0 h (n9 {L1 with A:=A,c:=c} C (.slice Au U.length cu) w1::_)).tl.arr enc_len
  refine tAp (bytes:=48) (xs:=w1.sd) (ys:=ag) enc_len (by omega) enc_plain rfl S rfl (E9 enc_len hag rfl) (by omega) (by omega) ?_
  clear S hag
  intro v2 h S
  refine Wa ?_
  refine tS S.p1 rfl rfl (l_a rfl) ?_
  clear S
  intro h S
  refine Wa ?_
  refine hK _ _ ⟨{L1 with A:=A,c:=c},v2,by rw[hd],?_⟩
  rw[hd]
  have S1:=St.nilS (enc:=Msg.enc) (sz:=6) (T:=127) S.p1.p6.tl
  have S2:=S1.p6.p6.p6.p6.p6.p6
  have S3:St h0 h ([i4 Msg.enc 6 127 v2 (w1.sd++ag)]++moL {L1 with A:=A,c:=c} C (.slice Au U.length cu) ⟨w1.s,[]⟩ k t o (.slice none 0 0) vs (i4 Msg.enc 6 127 (.slice A2 ag.length c2) ag::n9 L C (.slice Au U.length cu) ⟨sg,[]⟩::d9 g x.enc 44::l)):=S2
  have S4:St h0 h (n9 {L1 with A:=A,c:=c} C (.slice Au U.length cu) ⟨w1.s,[]⟩::i4 Msg.enc 6 127 v2 (w1.sd++ag)::i4 Msg.enc 6 127 (.slice A2 ag.length c2) ag::n9 L C (.slice Au U.length cu) ⟨sg,[]⟩::d9 g x.enc 44::l):=St.moClose (w:=⟨w1.s,[]⟩) (X:=[_]) hv S3
  exact S4.p1.p2.tl.p2.tl.p2.tl
end
end
end Go.Proofs.YtjagmebglhbdkaaGreat.MX
