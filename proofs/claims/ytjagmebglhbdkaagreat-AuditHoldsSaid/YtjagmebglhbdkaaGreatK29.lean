import Derived.Test.YtjagmebglhbdkaaGreatK28
import Derived.Test.YtjagmebglhbdkaaGreatK24
import Derived.Test.YtjagmebglhbdkaaGreatK21
namespace Go.Proofs.YtjagmebglhbdkaaGreat.MX
open Go Go.Proofs
set_option linter.unusedSimpArgs false
set_option linter.unusedVariables false
section
def a7N(w:Wk)(i:Nat):Wk:=let w2:=t7 (w.put i {w.R i with state:=3}) (w.R i).us 1;a2Q w2 (i+1) (w.s.now+30)
def a0B(w:Wk)(i:Nat):Wk:=S7 (t7 (w.put i {w.R i with state:=4}) (w.R i).us 2) (i+1)
noncomputable def a3Q(ps:List Pol)(ss:List Sup)(U:List Unt)(w:Wk)(c:Cmd)(i j:Nat):Wk:=
 let r:=w.R i
 let x:=j9 U c.unit
 let p:=C8 ps x.cat
 let w1:=w.put i {r with gs:=r.gs.set j c.grade,worth:=r.worth+wrt p x.share r.rea c.grade}
 let w2:=if p.gto c.grade≠0 then w1.mv c.unit (p.gto c.grade)else I4 (w1.mv c.unit 8) 4 r.num c.unit
 if(w2.R i).gs.contains (-1)=true then w2 else N2 ss w2 i
def a4K(w:Wk)(i:Nat)(s:Int):Wk:=(w.put i {w.R i with paid:=(w.R i).paid+s}).led (K3 w.s.led 1 2 s)
def a0v(ss:List Sup)(w:Wk)(i:Nat):Wk:=((w.put i {w.R i with given:=(w.R i).given+prc ss (w.R i)}).mv (w.R i).res 8).led (K3 w.s.led 1 4 (prc ss (w.R i)))
def T9(ss:List Sup)(w:Wk)(m:Msg)(yes:Bool):Wk:=
 let i:=(m.rma-1).toNat
 if m.kind=1 then(if yes=true then w.put i {w.R i with state:=2}else N4 w i 8)
 else y8 (if m.kind=2 then(if yes=true then a4K w i m.value else G3 w i m.value)else if m.kind=3 then(if yes=true then a0v ss w i else O3 (j5 w i) i (prc ss (w.R i)))else w.mv m.value (I8 yes)) i
section
variable{D:Cfg}{U:List Unt}{w W:Wk}{e i j m:Nat}{q s:Int}{r:Ret}{K:List KU}{O:List Msg}
theorem c0R{us gs:List Int}(h:Q6 us gs){a:Nat}:∀{b:Nat},b<us.length→a<b→us.getD a 0<us.getD b 0
 |0,_,h=>absurd h (by omega)
 |b+1,hb,hab=>by
  have h1:=(h.2.2 (b+1) hb).2.1 (by omega)
  rw[a4E]at h1
  by_cases e:a=b
  ·rw[e];exact h1
  ·have:=c0R h (a:=a) (b:=b) (by omega) (by omega)
   omega
theorem b4h{us gs:List Int}(h:Q6 us gs):∀a<us.length,∀b<us.length,us.getD a 0=us.getD b 0→a=b:=fun a ha b hb e=>by
 rcases Nat.lt_trichotomy a b with h1|h1|h1
 ·have:=c0R h hb h1;omega
 ·exact h1
 ·have:=c0R h ha h1;omega
theorem b5J(f:Int→Int→Int):∀{us gs:List Int}{j:Nat}{g:Int},j<us.length→gs.length=us.length→((us.zip (gs.set j g)).map fun x=>f x.1 x.2).sum=((us.zip gs).map fun x=>f x.1 x.2).sum-f (us.getD j 0) (gs.getD j 0)+f (us.getD j 0) g
 | [],_,_,_,h,_=>absurd h (by simp)
 |u::us,[],_,_,_,h=>by simp at h
 |u::us,x::gs,0,g,_,_=>by simp;omega
 |u::us,x::gs,j+1,g,h1,h2=>by
  have:=b5J f (us:=us) (gs:=gs) (j:=j) (g:=g) (by simpa using h1) (by simpa using h2)
  simp only[l_i,List.zip_cons_cons,G7,K1,List.getD_cons_succ,this]
  omega
theorem b9b{p:Pol}(hp:p.right)(g:Int):p.gto g=0∨p.gto g=3∨p.gto g=4∨p.gto g=5:=by
 obtain⟨_,⟨h0,h1,h2,h3⟩,_⟩:=hp
 unfold Z9 at h0 h1 h2 h3
 unfold Pol.gto
 repeat' split
 all_goals omega
theorem a9b(hD:Stc D U){c:Cmd}(I:Inv D U w 1000 0)(Wf:w.wf U m)(hi:i<w.s.R.length)(h4:(w.R i).state=4)(hE:N9 (w.R i) c.unit c.grade= .ok j)(hg4:c.grade≠4):
  a0Z D.ps D.ss U w c i j= .ok (a3Q D.ps D.ss U w c i j)∧Inv D U (a3Q D.ps D.ss U w c i j) 1000 0:=by
 obtain⟨_,hgr,hj,hu,hgj⟩:=a5q hE
 have hg:0≤c.grade∧c.grade≤3:=by unfold btw at hgr;omega
 have hI:=I.ret i hi
 have hok:=Wf.rr _ (C5 hi)
 have hgl:=Wf.len _ (C5 hi)
 have hwl:=I7 hD hI hgl
 have hrl:=Wf.rl
 have hwr:=a3s (r:=(w.R i).rea) (g:=c.grade) (K8 hD.cfg.1 (j9 U c.unit).cat) (L0 hD.sh c.unit).1
 have hsh:=L0 hD.sh c.unit
 have hto:=b9b (K8 hD.cfg.1 (j9 U c.unit).cat) c.grade
 have hn0:(w.R i).worth+wrt (C8 D.ps (j9 U c.unit).cat) (j9 U c.unit).share (w.R i).rea c.grade=J7 D.ps U {w.R i with gs:=(w.R i).gs.set j c.grade}:=by
  have:=b5J (fun u g=>T1 D.ps U (w.R i).rea u g) (g:=c.grade) hj hgl.2
  have h1:=hI.worth
  unfold J7 at h1⊢
  simp only at this⊢
  rw[this,←h1,hgj,hu]
  have e1:T1 D.ps U (w.R i).rea c.unit (-1)=0:=rfl
  have e2:T1 D.ps U (w.R i).rea c.unit c.grade=wrt (C8 D.ps (j9 U c.unit).cat) (j9 U c.unit).share (w.R i).rea c.grade:=by unfold T1;rw[if_neg hg4,if_pos hg.1]
  rw[e1,e2]
  omega
 unfold a0Z a3Q
 simp only
 rw[a4f (by omega)]
 generalize hN:(w.R i).worth+wrt (C8 D.ps (j9 U c.unit).cat) (j9 U c.unit).share (w.R i).rea c.grade=N at*
 obtain⟨w2,hw2⟩:∃w2,w2=(if(C8 D.ps (j9 U c.unit).cat).gto c.grade≠0 then(w.put i {w.R i with gs:=(w.R i).gs.set j c.grade,worth:=N}).mv c.unit ((C8 D.ps (j9 U c.unit).cat).gto c.grade)else I4 ((w.put i {w.R i with gs:=(w.R i).gs.set j c.grade,worth:=N}).mv c.unit 8) 4 (w.R i).num c.unit):=⟨_,rfl⟩
 have hR2:w2.s.R=w.s.R.set i {w.R i with gs:=(w.R i).gs.set j c.grade,worth:=N}:=by rw[hw2];split<;>rfl
 have I2:Inv D U w2 1000 0:=by
  have hinj:=b4h hok.1
  by_cases ht:(C8 D.ps (j9 U c.unit).cat).gto c.grade≠0
  ·rw[if_pos ht]at hw2
   exact a9g (to:=(C8 D.ps (j9 U c.unit).cat).gto c.grade) (M:=[]) I (by omega) hi h4 hj hgl.2 hgj hg (by omega) hinj hn0 (.inl rfl) hR2 (by rw[hw2,hu];rfl) (by rw[hw2];simp[Wk.mv,Wk.put]) (by rw[hw2];rfl) (by rw[hw2];rfl)
  ·rw[if_neg ht]at hw2
   exact a9g (to:=8) (M:=[⟨w.s.key,4,(w.R i).num,c.unit,1,w.s.now+1⟩]) I (by omega) hi h4 hj hgl.2 hgj hg (by omega) hinj hn0 (.inr ⟨_,rfl,rfl,rfl,hI.num,hu.symm⟩) hR2 (by rw[hw2,hu];rfl) (by rw[hw2];rfl) (by rw[hw2];rfl) (by rw[hw2];rfl)
 have W2:w2.wf U (m+1):=by
  have W1:(w.put i {w.R i with gs:=(w.R i).gs.set j c.grade,worth:=N}).wf U m:=Wf.put ⟨Y4 hok.1 (by unfold btw;omega),hok.2⟩
  rw[hw2]
  split
  ·exact(W1.mv _ _).up (by omega)
  ·exact(W1.mv _ _).say _ _ _
 rw[←hw2]
 have hRi:w2.R i={w.R i with gs:=(w.R i).gs.set j c.grade,worth:=N}:=by rw[(a0X hR2 hi).1,if_pos rfl]
 split
 ·exact⟨rfl,I2⟩
 ·rename_i hc
  obtain⟨a,b,_⟩:=b3W hD I2 W2 (i:=i) (by rw[hR2];simpa using hi) (by rw[hRi];exact h4) (fun g hg2=>by
   have h1: -1≤g:=by
    have hk:=W2.rr _ (C5 (i:=i) (by rw[hR2];simpa using hi))
    obtain⟨k,hk2,rfl⟩:=R7 hg2
    have:=(hk.1.2.2 k (by rw[←hk.1.2.1];exact hk2)).2.2
    rw[l7 hk2]at this
    exact this.1
   have h2:g≠-1:=fun e=>hc (by rw[List.contains_iff_mem];rw[e]at hg2;exact hg2)
   omega)
  exact⟨a,b⟩
theorem b1i(hi:i<w.s.R.length):w.s.at_ (i+1)=some (w.R i):=by
 unfold Sag.at_ Wk.R
 rw[if_pos (by omega),show((i:Int)+1-1).toNat=i by omega,l_s,l_r hi]
 rfl
theorem b2i(I:Inv D U w 1000 0)(Wf:w.wf U m)(hi:i<w.s.R.length)(h2:(w.R i).state=2):a2L w (i+1)= .ok (a7N w i)∧Inv D U (a7N w i) 1000 0:=by
 have hrl:=Wf.rl
 have hp:a2L w (i+1)= .ok (a7N w i):=by
  unfold a2L a7N H3
  rw[b1i hi]
  simp only
  rw[show E4 (w.R i).state 2=some 3 by rw[h2];rfl]
  simp only[Except.bind,show((i:Int)+1-1).toNat=i by omega]
  rw[E0 hi,K2]
  rfl
 refine⟨hp,?_⟩
 refine a9h (t:=2) I (by omega) hi h2 (.inl rfl) ?_ ?_ ?_ ?_ (Wf.len _ (C5 hi)).2 ?_<;>unfold a7N<;>rw[K2]
 any_goals rfl
 intro x hx
 rcases a6D hx with h|h
 ·exact .inr ⟨rfl,h⟩
 ·by_cases e:x.num=i+1
  ·exact .inr ⟨rfl,e⟩
  ·exact .inl ⟨h,e⟩
theorem a6c(I:Inv D U w 1000 0)(Wf:w.wf U m)(hi:i<w.s.R.length)(h3:(w.R i).state=3):O4 w (i+1)= .ok (a0B w i)∧Inv D U (a0B w i) 1000 0:=by
 have hrl:=Wf.rl
 have hp:O4 w (i+1)= .ok (a0B w i):=by
  unfold O4 a0B H3
  rw[b1i hi]
  simp only
  rw[show E4 (w.R i).state 3=some 4 by rw[h3];rfl]
  simp only[Except.bind,show((i:Int)+1-1).toNat=i by omega]
  rw[E0 hi]
 refine⟨hp,?_⟩
 refine a9h (t:=3) I (by omega) hi h3 (.inr rfl) ?_ ?_ ?_ ?_ (Wf.len _ (C5 hi)).2 ?_<;>unfold a0B<;>rw[K2]
 any_goals rfl
 intro x hx
 have:=O6 hx
 exact .inl ⟨this.1,this.2⟩
theorem b9i(I:Inv D U w i 0)(hi:i<w.s.R.length)(h5:(w.R i).state≠5)(he:w.s.R.length≤e):Inv D U w e 0:=
 {I with
  res:=fun j hj=>by
   have:=I.res j hj
   grind [a2i]
  mon:=fun j hj hf=>by
   have:=I.mon j hj hf
   rw[this]
   simp
  cl:=fun j hj h6=>⟨(I.cl j hj h6).1,by omega⟩
  op:=fun j hj h=>by
   have:=I.op j hj h
   grind}
theorem b2m(hD:Stc D U)(I:Inv D U w e q)(hq:0≤q)(Wf:w.wf U m)(hs:0≤s∧s≤858993459200)(a b:Int):Q5 (w.put i r) a b s= .ok ((w.put i r).led (K3 w.s.led a b s)):=by
 unfold Q5
 show(a1u w.s.led a b s).map _=_
 rw[a7x hD I hq Wf hs]
 rfl
theorem a9d(hD:Stc D U)(I:Inv D U w 1000 0)(Wf:w.wf U m){k:Nat}(hk:k<w.s.O.length){x:Msg}(hx:w.s.O[k]=x)(hin:(x.rma-1).toNat=i)(yes:Bool){w1:Wk}(hw1:w1={w with s:={w.s with O:=w.s.O.take k++w.s.O.drop (k+1)} }):
  (if x.kind=1∧yes=false then M1 w1 x.rma 8 else
    (if x.kind=1 then H3 w1 x.rma 1 else if x.kind=2 then a0T w1 i x.value yes else if x.kind=3 then I6 D.ss w1 i yes
     else if H9 w1.s.K x.value (I8 yes)=0 then .ok (w1.mv x.value (I8 yes))else .error (H9 w1.s.K x.value (I8 yes))).map fun w2=>y8 w2 i)= .ok (T9 D.ss w1 x yes)∧Inv D U (T9 D.ss w1 x yes) 1000 0:=by
 have hL:b7O w.s.O w1.s.O x:=by rw[hw1,←hx];exact b5a hk
 have hIx:=I.msg x hL.mem
 have hrl:=Wf.rl
 have hi:i<w.s.R.length:=by have:=hIx.rma;omega
 have hri:x.rma=i+1:=by have:=hIx.rma;omega
 have hR1:w1.s.R=w.s.R:=by rw[hw1]
 have hRR:∀j,w1.R j=w.R j:=fun j=>by rw[hw1];rfl
 have hK1:w1.s.K=w.s.K:=by rw[hw1]
 have hT1:w1.s.T=w.s.T:=by rw[hw1]
 have hL1:w1.s.led=w.s.led:=by rw[hw1]
 have hi1:i<w1.s.R.length:=by rw[hR1];exact hi
 have hrl1:w1.s.R.length≤100:=by rw[hR1];exact hrl
 have W1:w1.wf U m:=by
  rw[hw1]
  exact⟨Wf.kl,Wf.rl,Wf.rr,Wf.tg,Wf.tn,by rw[hw1]at hL;exact Z0 hL.sub.length_le Wf.ol,fun y hy=>by rw[hw1]at hL;exact Wf.ot y (hL.sub.subset hy),Wf.key,Wf.sl,Wf.now⟩
 have hres:x.kind≠3→0≤(w.R i).res→(w.R i).state=5→i5 w.s.K (w.R i).res=7→∃y∈w1.s.O,y.kind=3∧y.rma=i+1:=fun hk3 h0 h5 h7=>by
  have h:=(I.res i hi).2 h0
  rcases h.2.2 with⟨_,_,h⟩|⟨h,_⟩
  ·rcases h h5 with h|⟨y,y1,y2,y3⟩
   ·omega
   ·rcases hL.old y y1 with rfl|y4
    ·exact absurd y2 hk3
    ·exact⟨y,y4,y2,by rw[y3];exact(I.ret i hi).num⟩
  ·omega
 have hno3:x.kind=3→∀y∈w1.s.O,y.kind=3→y.rma≠i+1:=fun h3 y hy hy3 hyr=>hL.no I.cls y hy (by unfold a1g;omega)
 have hwl:=I7 hD (I.ret i hi) (Wf.len _ (C5 hi))
 have hpr:=a5F hD (w.R i)
 have k3:=hIx.k3
 have k2:=hIx.k2
 have k4:=hIx.k4
 have k1:=hIx.k1
 have hki:=hIx.kind
 rw[hin]at k1 k2 k3 k4
 by_cases h1:x.kind=1
 ·have hst:=k1 h1
  cases yes with
  |false=>
   rw[if_pos ⟨h1,rfl⟩,show T9 D.ss w1 x false=N4 w1 i 8 by unfold T9;simp only[hin];rw[if_pos h1,if_neg (by decide)]]
   have I1:Inv D U w1 1000 0:=b9i (a3e I (by omega) hi hL hri hR1 hT1 hL1 (.inl ⟨h1,hK1,rfl⟩)) hi1 (by rw[hRR];omega) (by omega)
   rw[hri]
   obtain⟨a,b,_⟩:=a4t (st:=8) I1 W1 hi1 (by rw[hRR];exact .inl hst) (by decide)
   exact⟨a,b⟩
  |true=>
   rw[if_neg (by simp),if_pos h1,show T9 D.ss w1 x true=w1.put i {w1.R i with state:=2} by unfold T9;simp only[hin];rw[if_pos h1,if_pos trivial]]
   constructor
   ·unfold H3
    have h0:((i:Int)+1-1).toNat=i:=by omega
    rw[hri,b1i hi1]
    simp only
    rw[show E4 (w1.R i).state 1=some 2 by rw[hRR,hst];rfl]
    simp only[Except.map,h0]
    unfold y8
    rw[E0 hi1,if_neg (fun h=>by simp at h)]
   ·exact b6S I (by omega) hi (m:=x) hL h1 hri (by rw[hRR];show w1.s.R.set _ _=_;rw[hR1]) hK1 hT1 hL1
 rw[if_neg (fun h=>h1 h.1),if_neg h1]
 have hQ:T9 D.ss w1 x yes=y8 (if x.kind=2 then(if yes=true then a4K w1 i x.value else G3 w1 i x.value)else if x.kind=3 then(if yes=true then a0v D.ss w1 i else O3 (j5 w1 i) i (prc D.ss (w1.R i)))else w1.mv x.value (I8 yes)) i:=by unfold T9;simp only[hin];rw[if_neg h1]
 rw[hQ]
 by_cases h2:x.kind=2
 ·rw[if_pos h2,if_pos h2]
  obtain⟨h5,hv⟩:=k2 h2
  have h51:(w1.R i).state=5:=by rw[hRR];exact h5
  have I1:Inv D U w1 i x.value:=a3e I (by omega) hi hL hri hR1 hT1 hL1 (.inr (.inl ⟨h2,hK1,rfl⟩))
  have hb:=a4d hD I1 (by omega) hi1 (.inl h51)
  rw[if_pos rfl,hRR]at hb
  cases yes with
  |true=>
   have hp:a0T w1 i x.value true= .ok (a4K w1 i x.value):=by
    unfold a0T a4K
    rw[if_pos rfl,a4f (by rw[hRR];omega)]
    exact b2m hD I1 (by omega) W1 (by omega) 1 2
   rw[hp,if_pos rfl]
   refine⟨rfl,a0f ?_ (by show i<(w1.put i _).s.R.length;rw[o7];exact hi1) (.inr ?_) (by show(w1.put i _).s.R.length≤_;rw[o7];omega) ?_⟩
   ·have:=a5s (W:=a4K w1 i x.value) (p:=x.value) (c:=0) (g:=0) I1 hi1 h51 (by omega) (by simp[a4K,Wk.led,Wk.put]) rfl rfl rfl (by simp[a4K,Wk.led,K3,Led.put,Led.get])
    simpa using this
   ·show((w1.put i _).R i).state=5
    rw[E0 hi1];exact h51
   ·intro a b c
    have e:(a4K w1 i x.value).R i={w1.R i with paid:=(w1.R i).paid+x.value}:=E0 hi1
    rw[e]at a c
    have c':i5 w1.s.K (w1.R i).res=7:=c
    rw[hK1,hRR]at c'
    exact hres (by omega) (by rw[←hRR];exact a) h5 c'
  |false=>
   have hp:a0T w1 i x.value false= .ok (G3 w1 i x.value):=by
    unfold a0T X0 G3
    rw[if_neg (by decide),a4f (by rw[hRR];omega)]
    exact b2m hD I1 (by omega) W1 (by omega) 1 3
   rw[hp,if_neg (by decide)]
   refine⟨rfl,a0f ?_ (by show i<(w1.put i _).s.R.length;rw[o7];exact hi1) (.inr ?_) (by show(w1.put i _).s.R.length≤_;rw[o7];omega) ?_⟩
   ·have:=a5s (W:=G3 w1 i x.value) (p:=0) (c:=x.value) (g:=0) I1 hi1 h51 (by omega) (by simp[G3,Wk.led,Wk.put]) rfl rfl rfl (by simp[G3,Wk.led,K3,Led.put,Led.get])
    simpa using this
   ·show((w1.put i _).R i).state=5
    rw[E0 hi1];exact h51
   ·intro a b c
    have e:(G3 w1 i x.value).R i={w1.R i with credd:=(w1.R i).credd+x.value}:=E0 hi1
    rw[e]at a c
    have c':i5 w1.s.K (w1.R i).res=7:=c
    rw[hK1,hRR]at c'
    exact hres (by omega) (by rw[←hRR];exact a) h5 c'
 rw[if_neg h2,if_neg h2]
 by_cases h3:x.kind=3
 ·rw[if_pos h3,if_pos h3]
  obtain⟨h5,hv,hv0,h7⟩:=k3 h3
  have h51:(w1.R i).state=5:=by rw[hRR];exact h5
  have I1:Inv D U w1 i (prc D.ss (w.R i)):=a3e I (by omega) hi hL hri hR1 hT1 hL1 (.inr (.inr (.inl ⟨h3,hK1,rfl⟩)))
  have hb:=a4d hD I1 hpr.1 hi1 (.inl h51)
  rw[if_pos rfl,hRR]at hb
  have h71:i5 w1.s.K (w1.R i).res=7:=by rw[hK1,hRR,←hv];exact h7
  have hr1:0≤(w1.R i).res:=by rw[hRR,←hv];exact hv0
  have hpe:prc D.ss (w1.R i)=prc D.ss (w.R i):=by rw[hRR]
  cases yes with
  |true=>
   have hp:I6 D.ss w1 i true= .ok (a0v D.ss w1 i):=by
    unfold I6 a0v
    simp only
    rw[if_pos trivial,show(u3 D.ss (w1.R i).want).getD 0=prc D.ss (w1.R i)from rfl,a4f (by rw[hpe,hRR];omega),E0 hi1]
    simp only
    rw[if_pos (show H9 (w1.put i _).s.K (w1.R i).res 8=0 by rw[a4H];show J4 (i5 w1.s.K (w1.R i).res) 8;rw[h71];decide)]
    unfold Q5
    show(a1u w1.s.led 1 4 _).map _=_
    rw[a7x hD I1 hpr.1 W1 (by rw[hpe];omega)]
    rfl
   rw[hp,if_pos rfl]
   have hRg:(a0v D.ss w1 i).s.R=w1.s.R.set i {w1.R i with given:=(w1.R i).given+prc D.ss (w1.R i)}:=rfl
   have e:(a0v D.ss w1 i).R i={w1.R i with given:=(w1.R i).given+prc D.ss (w1.R i)}:=by rw[(a0X hRg hi1).1,if_pos rfl]
   have hln:=(a0X hRg hi1).2.1
   have hKg:(a0v D.ss w1 i).s.K=E3 w1.s.K (w1.R i).res 8:=rfl
   refine⟨rfl,a0f ?_ (by omega) (.inr ?_) (by omega) ?_⟩
   ·have:=b6R (W:=a0v D.ss w1 i) (s:=prc D.ss (w1.R i)) I1 hi1 h51 hr1 h71 (hno3 h3) (by rw[hpe];exact hpr.1) hRg hKg rfl rfl (by simp[a0v,Wk.led,K3,Led.put,Led.get])
    rw[hpe,Int.sub_self]at this
    exact this
   ·rw[e];exact h51
   ·intro a b c
    rw[e]at c
    simp only at c
    rw[hKg,a1s (by rw[h71];decide),if_pos rfl]at c
    omega
  |false=>
   have hR0:j5 w1 i=(w1.mv (w1.R i).res 3).put i {w1.R i with res:= -1}:=by rw[j5,if_pos hr1]
   have hRi:(j5 w1 i).R i={w1.R i with res:= -1}:=by rw[hR0];exact E0 hi1
   have I2:Inv D U (j5 w1 i) i (prc D.ss (w.R i)):=a5X I1 hi1 h51 hr1 h71 (hno3 h3) (by rw[hR0];rfl) (by rw[hR0];rfl) (by rw[hR0];rfl) (by rw[hR0];rfl) (by rw[hR0];rfl)
   have hln:(j5 w1 i).s.R.length=w1.s.R.length:=D4 _ _
   obtain⟨p1,p2,p3,p4,p5,p6,p7,p8⟩:=b5p hD I2 hpr.1 (W1.release hi1) (by omega) (by rw[hRi];exact h51)
   have hp:I6 D.ss w1 i false= .ok (O3 (j5 w1 i) i (prc D.ss (w1.R i))):=by
    unfold I6
    simp only
    rw[if_neg (by decide),show(u3 D.ss (w1.R i).want).getD 0=prc D.ss (w1.R i)from rfl,hpe]
    exact p1
   rw[hp,if_neg (by decide),hpe]
   refine⟨rfl,a0f p2 (by omega) (.inr p6) (by omega) (fun a _ _=> ?_)⟩
   rw[p7,hRi]at a
   simp at a
 ·rw[if_neg h3,if_neg h3]
  obtain⟨h45,h8,hnr⟩:=k4 (by omega)
  have hto:I8 yes=0∨I8 yes=6:=by unfold I8;split<;>simp
  rw[if_pos (by rw[a4H,hK1,h8];unfold J4;omega)]
  have hLm:b7O w.s.O (w1.mv x.value (I8 yes)).s.O x:=hL
  refine⟨rfl,a0f ?_ hi1 (by show(w1.R i).state=4∨(w1.R i).state=5;rw[hRR];exact h45) (by show w1.s.R.length≤_;omega) ?_⟩
  ·exact a3e I (by omega) hi hLm hri hR1 hT1 hL1 (.inr (.inr (.inr ⟨by omega,rfl,_,hto,by show E3 w1.s.K _ _=_;rw[hK1]⟩)))
  ·intro a b c
   have a':0≤(w1.R i).res:=a
   have b':(w1.R i).state=5:=b
   have c':i5 (E3 w1.s.K x.value (I8 yes)) (w1.R i).res=7:=c
   rw[hRR]at a' b' c'
   rw[hK1,a1s (by rw[h8];unfold J4;omega),if_neg (hnr i hi)]at c'
   exact hres h3 a' b' c'
end
end
section
set_option maxHeartbeats 8000000
def a3u(u:Unt):Int:=if u.ord<0 then 3 else 0
noncomputable def C3(C:Cfg):Sag:=⟨U5 ((l9 C).map Unt.sku) ((l9 C).map a3u),⟨0,0,0,0,0⟩,[],[],1,[],0⟩
theorem map_set{U:List Unt}(f:Unt→Int){i:Nat}(hi:i<U.length):((U.take i).map f++List.replicate (U.length-i) 0).set i (f U[i])=(U.take (i+1)).map f++List.replicate (U.length-(i+1)) 0:=by
 rw[a6l _ _ (by rw[l_z,x4];omega),l_z,x4,Nat.min_eq_left (by omega),Nat.sub_self,show U.length-i=U.length-(i+1)+1 by omega,List.replicate_succ,l_h,l_t hi,L7,l_q]
 rfl
theorem b5b{U:List Unt}(f:Unt→Int){i:Nat}(hi:i≤U.length):((U.take i).map f++List.replicate (U.length-i) (0:Int)).length=U.length:=by
 rw[l_m,l_z,x4,G4];omega
section
variable{h0 h:c9}{l:List HP}
theorem c2T{A:Option Addr}{c:Nat}{U:List Unt}(S:St h0 h l)(ha:∀h',St h0 h' l→Arr Unt.enc 4 h' A U)(hl:U.length<1000000):
  d8 Tryz.prog 39 [.slice A U.length c] h fun v h'=>St h0 h' (i4 i6 1 3 v (U.map Unt.sku)::l):=by
 refine EN i39.eq_1 fun K hK=>Wa ?_
 refine a0V (0:Int) zEl rfl S (by omega) (by omega) ?_
 clear S
 intro w h S
 obtain⟨B,d,rfl⟩:=S.sl
 rw[G4]at S⊢
 refine Wa ?_
 refine lI (fun ρ h'=>ρ 3= .slice B U.length d∧ρ 9= .slice A U.length c∧ρ 10= .int .i64 U.length∧∃i:Nat,ρ 11= .int .i64 i∧i≤U.length∧
  St h0 h' (i4 i6 1 3 (.slice B U.length d) ((U.take i).map Unt.sku++List.replicate (U.length-i) 0)::l)) (fun ρ _=>U.length-(iv (ρ 11)).toNat) ?_ ?_
 ·refine Wa ?_
  exact⟨0,rfl,by omega,S⟩
 clear S
 rintro ρ h J hJ ⟨e3,e9,e10,i,e11,hi,S⟩
 refine Wc e10 e11 ?_
 refine cD (fun hlt=> ?_) (fun hlt=> ?_)
 ·have hil:i<U.length:=by omega
  obtain⟨b1,o1,rfl,q1⟩:=(ha _ S.tl).at hil
  have hset:=map_set Unt.sku hil
  have hlen:=b5b Unt.sku hi
  generalize U[i]=x at*
  refine Wd e9 e11 q1 ?_
  (revert S;(try clear F);refine AL fun q h S F=> ?_)
  refine Wc F @Unt.enc.eq_1 ?_
  (revert S;(try clear F);refine ST fun h S F=> ?_)
  obtain⟨b,rfl⟩:=S.p1.ownAt (by omega)
  refine Wd e3 e11 F ?_
  refine v7 zEl (i:=i) (x:=x.sku) S.p1 (by omega) (by rw[m9];try rfl) rfl rfl rfl ?_
  clear S F q1
  intro h S
  rw[hset]at S
  refine Wb e11 ?_
  refine hJ _ _ ?_ ?_
  ·refine Wd e3 e9 e10 ?_
   exact⟨i+1,rfl,by omega,S.d1⟩
  ·refine Wb e11 ?_
   omega
 obtain rfl:i=U.length:=by omega
 rw[Nat.sub_self,List.replicate_zero,D9,C9]at S
 refine Wb e3 ?_
 exact hK _ _ S
theorem b4s(C:Cfg)(r:∀h',St h0 h' l→C.rd h')(w:C.wf)(l1:C.os.length<1000000)(l2:C.ss.length<1000000)(l3:C.ps.length<1000000)(l4:∀o∈C.os,o.ls.length<1000000)(S:St h0 h l):
  d8 Tryz.prog 11 [.agg C.enc.toArray] h fun v h'=>(¬K7 C∧v= .tuple #[.pointer none,.int .i64 1]∧St h0 h' l)∨
   (K7 C∧∃p D u,v= .tuple #[.pointer (some ⟨p,0,none⟩),.int .i64 0]∧D.wf∧D.pu=C.pu∧St h0 h' (B5 p D u (C3 C)::a0J D u (l9 C)::l)):=by
 refine EN i11.eq_1 fun K hK=>Wa ?_
 (revert S;(try clear F);refine AL fun g h S F=> ?_)
 refine Wc F @Cfg.enc.eq_1 ?_
 rw[show [Value.slice C.A1 C.os.length C.c1,.slice C.A2 C.ss.length C.c2,.slice C.A3 C.ps.length C.c3]=C.enc from rfl]
 refine cI (b6d C (fun h' S=>r h' S.tl) w l1 l2 l3 l4 S) ?_
 clear S F
 rintro _ h (⟨hok,rfl,S⟩|⟨hok,u,rfl,S⟩)
 ·refine Wa ?_
  exact hK _ _ (.inl ⟨hok,rfl,S.tl⟩)
 obtain⟨A,c,rfl⟩:=S.sl
 obtain⟨_,hul⟩:=a5a hok
 obtain⟨U,hU⟩:∃U,U=l9 C:=⟨_,rfl⟩
 rw[←hU]at S hul⊢
 refine Wa ?_
 refine a0V (0:Int) zEl rfl S (by omega) (by omega) ?_
 clear S
 intro w' h S
 obtain⟨B,d,rfl⟩:=S.sl
 rw[G4]at S⊢
 refine Wa ?_
 refine lI (fun ρ h'=>ρ 1= .pointer (some ⟨g,0,none⟩)∧ρ 4= .slice A U.length c∧ρ 6= .slice B U.length d∧ρ 20= .slice A U.length c∧ρ 21= .int .i64 U.length∧∃i:Nat,ρ 22= .int .i64 i∧i≤U.length∧
  St h0 h' (i4 i6 1 3 (.slice B U.length d) ((U.take i).map a3u++List.replicate (U.length-i) 0)::i4 Unt.enc 4 97 (.slice A U.length c) U::d9 g C.enc 26::l)) (fun ρ _=>U.length-(iv (ρ 22)).toNat) ?_ ?_
 ·refine Wa ?_
  exact⟨0,rfl,by omega,S⟩
 clear S
 rintro ρ h J hJ ⟨e1,e4,e6,e20,e21,i,e22,hi,S⟩
 refine Wc e21 e22 ?_
 refine cD (fun hlt=> ?_) (fun hlt=> ?_)
 ·have hil:i<U.length:=by omega
  obtain⟨b1,o1,rfl,q1⟩:=(S.p1.arr Unt.enc_len).at hil
  have hset:=map_set a3u hil
  have hlen:=b5b a3u hi
  have hsame:U[i].ord<0∨((U.take i).map a3u++List.replicate (U.length-i) 0)=(U.take (i+1)).map a3u++List.replicate (U.length-(i+1)) 0:=by
   by_cases hx:U[i].ord<0
   ·exact .inl hx
   ·refine .inr ?_
    have:a3u U[i]=0:=if_neg hx
    rw[l_t hil,L7,l_q,show U.length-i=U.length-(i+1)+1 by omega,List.replicate_succ]
    simp[this]
  generalize U[i]=x at*
  refine Wd e20 e22 q1 ?_
  (revert S;(try clear F);refine AL fun q h S F=> ?_)
  refine Wc F @Unt.enc.eq_1 ?_
  (revert S;(try clear F);refine ST fun h S F=> ?_)
  by_cases hx:x.ord<0
  ·obtain⟨b,rfl⟩:=S.p1.ownAt (by omega)
   refine We e6 e22 F hx ?_
   refine v7 zEl (i:=i) (x:=3) S.p1 (by omega) (by rw[m9];try rfl) rfl rfl rfl ?_
   clear S F q1
   intro h S
   rw[show(3:Int)=a3u x by rw[a3u,if_pos hx],hset]at S
   refine Wb e22 ?_
   refine hJ _ _ ?_ ?_
   ·refine Wf e1 e4 e6 e20 e21 ?_
    exact⟨i+1,rfl,by omega,S.d1⟩
   ·refine Wb e22 ?_
    omega
  ·rw[hsame.resolve_left hx]at S
   refine Wd e22 F hx ?_
   refine hJ _ _ ?_ ?_
   ·refine Wf e1 e4 e6 e20 e21 ?_
    exact⟨i+1,rfl,by omega,S.tl⟩
   ·refine Wb e22 ?_
    omega
 obtain rfl:i=U.length:=by omega
 rw[Nat.sub_self,List.replicate_zero,D9,C9]at S
 clear hJ e20 e21 e22
 refine Wb e4 ?_
 refine cI (c2T S (fun h' S=>S.p1.arr Unt.enc_len) (by omega)) ?_
 clear S
 intro v h S
 obtain⟨Ak,ck,rfl⟩:=S.sl
 refine Wb e6 ?_
 have hn:U.length=(U.map a3u).length:=(l_z ..).symm
 have hn2:(U.map Unt.sku).length=U.length:=l_z ..
 have hcall:=c1q (A:=Ak) (B:=B) (c:=ck) (d:=d) (sk:=U.map Unt.sku) (at_:=U.map a3u) S (fun h' S=>S.arr zEl) (fun h' S=>by have S1:=S.p1;rw[hn]at S1;exact S1.arr zEl) (by rw[hn2];omega) (by rw[←hn];omega)
 rw[←hn]at hcall
 refine cI hcall ?_
 clear S hcall
 have hokA:okAt (U.map a3u):=fun q hq=>by
  obtain⟨x,_,rfl⟩:=List.mem_map.1 hq
  unfold a3u
  split<;>omega
 rintro _ h (⟨hbad,_⟩|⟨_,k,rfl,S⟩)
 ·exact(hbad ⟨by rw[hn2],by rw[hn2];exact hul,hokA⟩).elim
 have S:=S.d1.d1
 ((try clear F);have F:=S.fx)
 refine Wc e1 F ?_
 refine cI (a5M C (fun h' S=>r h' S.tl.tl.tl) hok S) ?_
 clear S F
 rintro _ h ⟨D,rfl,hw,hp,S⟩
 refine Wc e4 @Cfg.enc.eq_1 ?_
 (revert S;(try clear F);refine AL fun t h S F=> ?_)
 have S:=c3b S
 refine Wa ?_
 refine cI (c1r S) ?_
 clear S F
 rintro _ h ⟨o,rfl,S⟩
 refine Wb @Cfg.enc.eq_1 ?_
 (revert S;(try clear F);refine AL fun p h S F=> ?_)
 refine Wa ?_
 refine hK _ _ (.inr ⟨hok,p,D,.slice A U.length c,rfl,hw,hp,?_⟩)
 have S:St h0 h (a3B (.slice none 0 0) []::_):=St.rmas.2 ⟨[],rfl,S.nilS⟩
 have S:=St.star.2 (S.p7.tl.p6.p5)
 rw[hU]at S⊢
 have S:St h0 h (a0J D (.slice A (l9 C).length c) (l9 C)::a3B (.slice none 0 0) (C3 C).R::d9 p (t8 D (.slice A (l9 C).length c) k t o (.slice none 0 0) (.slice none 0 0) (C3 C)) 113::D8 o (C3 C).key (C3 C).O::H2 t (C3 C).T::t6 k (C3 C).K::l):=S
 exact St.saga.2 ⟨k,t,o,.slice none 0 0,by(exact PM S)⟩
end
end
end Go.Proofs.YtjagmebglhbdkaaGreat.MX
