import Derived.Test.YtjagmebglhbdkaaGreatK29
namespace Go.Proofs.YtjagmebglhbdkaaGreat.MX
open Go Go.Proofs
set_option linter.unusedSimpArgs false
set_option linter.unusedVariables false
section
def a9k(now:Int)(m:Msg):Msg:=if m.due>now then m else m.bump now
def a9l(now:Int)(m:Msg):Bool:=decide (m.due>now)|| !decide (m.kind=1∧m.tries≥5)
def a3C(ss:List Sup)(U:List Unt)(w:Wk)(days:Int):Wk×List Msg:=
 let now:=w.s.now+days
 let w1:=((O8 w.s.T now).map Tm.num).foldl (P7 ss U) {w with s:={w.s with now:=now,T:=O1 w.s.T now} }
 ((x5 now w1.s.O).foldl (fun w m=>N4 w (m.rma-1).toNat 8) {w1 with s:={w1.s with O:=y9 now w1.s.O} },A9 now w1.s.O)
section
variable{D:Cfg}{U:List Unt}{w W:Wk}{e i j m:Nat}{q s:Int}{r:Ret}{K:List KU}{O:List Msg}
theorem b0n(now:Int):∀l:List Msg,y9 now l=(l.filter (a9l now)).map (a9k now)
 | []=>rfl
 |x::l=>by
  have ih:=b0n now l
  simp only[y9,X9,List.filter_cons]at ih⊢
  rw[ih]
  unfold K6 a9l a9k
  split
  ·simp[*]
  ·split<;>simp[*]
theorem a0e{now:Int}{l:List Msg}{x:Msg}(h:x∈x5 now l):x∈l∧x.kind=1:=by
 obtain⟨y,hy,hx⟩:=List.mem_flatMap.1 h
 unfold F7 at hx
 split at hx
 ·cases hx
 ·split at hx
  ·obtain rfl:=List.mem_singleton.1 hx
   rename_i h1
   exact⟨hy,h1.1⟩
  ·cases hx
theorem a5p(now:Int):∀l:List Msg,(x5 now l).Sublist l
 | []=>List.Sublist.refl _
 |x::l=>by
  have ih:=a5p now l
  simp only[x5,X9]at ih⊢
  unfold F7
  split
  ·exact ih.cons _
  ·split
   ·exact ih.cons_cons _
   ·exact ih.cons _
theorem c4y(ss:List Sup)(w:Wk)(i:Nat):(a2g ss w i).s.T=w.s.T:=by
 have hc:∀v:Wk,(y8 v i).s.T=v.s.T:=fun v=>by unfold y8;split<;>rfl
 have hp:∀(v:Wk) s,(O3 v i s).s.T=v.s.T:=fun v s=>by unfold O3;split;rfl;split<;>rfl
 have hr:(j5 w i).s.T=w.s.T:=by unfold j5;split<;>rfl
 unfold a2g
 rw[hc]
 split
 ·split
  ·rw[hp,hr]
  ·rw[hp];rfl
 ·rw[hp]
theorem c3u(ss:List Sup)(w:Wk)(n:Int):∀x∈(P7 ss U w n).s.T,x∈w.s.T:=by
 intro x hx
 unfold P7 at hx
 simp only at hx
 split at hx
 ·unfold a3z N2 at hx
  rw[c4y,K2]at hx
  exact hx
 ·split at hx
  ·unfold N4 at hx
   have:=(O6 hx).1
   unfold j5 at this
   split at this<;>exact this
  ·exact hx
theorem a2w(hD:Stc D U):∀{l:List Int}{w:Wk}{m:Nat},Inv D U w 1000 0→w.wf U m→l.Nodup→(∀n∈l,(1≤n∧n≤w.s.R.length)∧∀x∈w.s.T,x.num≠n)→
  M5 (a1I D.ss U) w l= .ok (l.foldl (P7 D.ss U) w)∧Inv D U (l.foldl (P7 D.ss U) w) 1000 0∧(l.foldl (P7 D.ss U) w).wf U (m+2*l.length)
 | [],w,m,I,Wf,_,_=>⟨rfl,I,Wf⟩
 |n::l,w,m,I,Wf,hn,h=>by
  obtain⟨h1,h2⟩:=h n (by simp)
  obtain⟨a,b,c,d⟩:=b4K hD I Wf h1 h2
  rw[List.nodup_cons]at hn
  obtain⟨e,f,g⟩:=a2w hD (l:=l) b c hn.2 (fun k hk=>by
   have:=h k (by simp[hk])
   exact⟨by omega,fun x hx=>this.2 x (c3u _ _ _ x hx)⟩)
  refine⟨by rw[M5,a];exact e,f,?_⟩
  rw[l_f,show m+2*(l.length+1)=m+2+2*l.length by omega]
  exact g
theorem a7l:∀{l:List Msg}{w:Wk}{m:Nat},Inv D U w 1000 0→w.wf U m→l.Pairwise (fun a b=>a.rma≠b.rma)→(∀x∈l,(1≤x.rma∧x.rma≤w.s.R.length)∧(w.R (x.rma-1).toNat).state=1)→
  M5 (fun w (x:Msg)=>M1 w x.rma 8) w l= .ok (l.foldl (fun w x=>N4 w (x.rma-1).toNat 8) w)∧Inv D U (l.foldl (fun w x=>N4 w (x.rma-1).toNat 8) w) 1000 0
 | [],w,m,I,Wf,_,_=>⟨rfl,I⟩
 |n::l,w,m,I,Wf,hn,h=>by
  obtain⟨h1,h2⟩:=h n (by simp)
  obtain⟨a,b,c,d,e⟩:=a4t (i:=(n.rma-1).toNat) (st:=8) I Wf (by omega) (.inl h2) (by decide)
  rw[show(((n.rma-1).toNat:Nat):Int)+1=n.rma by omega]at a
  rw[List.pairwise_cons]at hn
  obtain⟨f,g⟩:=a7l (l:=l) b c hn.2 (fun x hx=>by
   have h3:=h x (by simp[hx])
   have h4:=hn.1 x hx
   refine⟨by omega,?_⟩
   rw[e,if_neg (by omega)]
   exact h3.2)
  exact⟨by rw[M5,a];exact f,g⟩
theorem b2G(hD:Stc D U){days:Int}(I:Inv D U w 1000 0)(Wf:w.wf U m)(hd:¬(days<1∨1000<days))(hn:¬100000<w.s.now+days):
  a2h D.ss U w days= .ok (a3C D.ss U w days)∧Inv D U (a3C D.ss U w days).1 1000 0:=by
 have hnow:=Wf.now
 obtain⟨now,hno⟩:∃now,now=w.s.now+days:=⟨_,rfl⟩
 obtain⟨w0,hw0⟩:∃w0:Wk,w0={w with s:={w.s with now:=now,T:=O1 w.s.T now} }:=⟨_,rfl⟩
 have hTT:w.s.T=O8 w.s.T now++O1 w.s.T now:=(List.takeWhile_append_dropWhile).symm
 have hall:=Wf.tg.2
 rw[hTT,a1o]at hall
 have I0:Inv D U w0 1000 0:=a2B I (f:=id) (p:=fun _=>true) (by rw[hw0]) (by rw[hw0]) (by rw[hw0]) (fun x hx=>by rw[hw0]at hx;exact(List.dropWhile_sublist _).subset hx) (fun _=>⟨rfl,rfl,rfl⟩) (fun _ _ h=>by simp at h) (by rw[hw0,List.map_id,List.filter_eq_self.2 (fun _ _=>rfl)])
 have W0:w0.wf U m:=by rw[hw0];exact Wf.late (by omega)
 obtain⟨a,b,c⟩:=a2w hD (l:=(O8 w.s.T now).map Tm.num) I0 W0 (by
  rw[List.Nodup,List.pairwise_map]
  exact hall.1) (fun n hn=>by
   obtain⟨y,hy,rfl⟩:=List.mem_map.1 hn
   have h1:=Wf.tn y (by rw[hTT];exact Y0 _ hy)
   refine⟨by rw[hw0];exact h1,fun x hx he=> ?_⟩
   rw[hw0]at hx
   exact hall.2.2 y hy x hx he.symm)
 obtain⟨w1,hw1⟩:∃w1,w1=((O8 w.s.T now).map Tm.num).foldl (P7 D.ss U) w0:=⟨_,rfl⟩
 rw[←hw1]at a b c
 obtain⟨w2,hw2⟩:∃w2:Wk,w2={w1 with s:={w1.s with O:=y9 now w1.s.O} }:=⟨_,rfl⟩
 have I2:Inv D U w2 1000 0:=a2B b (f:=a9k now) (p:=a9l now) (by rw[hw2]) (by rw[hw2]) (by rw[hw2]) (fun x hx=>by rw[hw2]at hx;exact hx) (fun x=>by unfold a9k;split<;>exact⟨rfl,rfl,rfl⟩) (fun x _ h=>by unfold a9l at h;simp at h;exact h.2.1) (by rw[hw2];exact b0n _ _)
 have W2:=c.left now
 rw[←hw2]at W2
 have hg:(x5 now w1.s.O).Pairwise (fun a b=>a.rma≠b.rma):=by
  have:=b.cls.sublist (a5p now w1.s.O)
  rw[List.pairwise_iff_forall_sublist]at this⊢
  intro x y hxy he
  have hx:=(a0e (hxy.subset (by simp:x∈[x,y]))).2
  have hy:=(a0e (hxy.subset (by simp:y∈[x,y]))).2
  exact this hxy ⟨by omega,.inl ⟨.inl hx,he⟩⟩
 obtain⟨f,g⟩:=a7l (l:=x5 now w1.s.O) I2 W2 hg (fun x hx=>by
  obtain⟨h1,h2⟩:=a0e hx
  have h3:=b.msg x h1
  rw[hw2]
  exact⟨h3.rma,h3.k1 h2⟩)
 unfold a2h a3C
 rw[if_neg hd,if_neg hn]
 simp only[←hno,←hw0,←hw1,←hw2]
 rw[a]
 simp only[Except.bind,←hw2]
 rw[f]
 exact⟨rfl,g⟩
theorem b1C{α:Type}{f:α→Int}:∀{l:List α},a0t f l=0→∀x∈l,f x=0
 | [],_,x,h=>absurd h (by simp)
 |y::l,h,x,hx=>by
  unfold a0t at h
  split at h
  ·rcases List.mem_cons.1 hx with rfl|hx
   ·assumption
   ·exact b1C h x hx
  ·rename_i h1;exact absurd h h1
theorem a9v{sku:Int}{n:Nat}(h:a2e K sku=some n):n<K.length∧(K.getD n KU0).place=3∧(K.getD n KU0).sku=sku:=by
 unfold a2e at h
 rw[a8w]at h
 obtain⟨h1,h2,_⟩:=h
 have:=of_decide_eq_true h2
 rw[l_s,l_r h1]
 exact⟨h1,this⟩
theorem c2N(hD:Stc D U){c:Cmd}{x:Int×Wk}(I:Inv D U w 1000 0)(Wf:w.wf U m)(hc:c.formed)(h1:c.kind=1)(h:E5 D.ps D.os D.ss U w c= .ok x):Inv D U x.2 1000 0:=by
 have hf:=hc.1
 unfold Cmd.fits at hf
 rw[if_pos h1]at hf
 have W2:=a1R hD.ul (by have:=hf.1;omega) h Wf
 have hw:=hf.2.2.2.1
 unfold btw at hw
 unfold E5 at h
 split at h
 ·cases h
 split at h
 ·cases h
 split at h
 ·cases h
 rename_i hlen hord hask
 obtain⟨y,hy,rfl⟩:=u4 h
 unfold N6 at hask
 split at hask
 ·exact absurd hask (by simp)
 split at hask
 ·exact absurd hask (by simp)
 rename_i hu hrea
 have hunit:∀k,k<c.us.length→E6 U c k:=s7 (by cases hd:dcd (∀i,i<c.us.length→E6 U c i)with|false=>exact absurd hd hu|true=>rfl)
 have hware:∀u∈c.us,i5 w.s.K u=0∧L3 w.s u≤0:=fun u hu=>by
  have:=b1C (Classical.not_not.1 hask) u hu
  unfold G1 at this
  split at this
  ·simp at this
  ·omega
 have hnow:=Wf.now
 have hy2:y.2.s.R=w.s.R∧y.2.s.O=w.s.O∧y.2.s.T=w.s.T∧y.2.s.led=w.s.led∧y.2.s.now=w.s.now∧(y.1= -1∧y.2.s.K=w.s.K∨∃n:Nat,n<w.s.K.length∧y.1=n∧i5 w.s.K n=3∧y.2.s.K=w.s.K.set n {w.s.K.getD n KU0 with place:=7}∧(u3 D.ss c.want).isSome=true):=by
  unfold X1 at hy
  split at hy
  ·cases hy;exact⟨rfl,rfl,rfl,rfl,rfl,.inl ⟨rfl,rfl⟩⟩
  ·split at hy
   ·cases hy
   ·rename_i p hp
    split at hy
    ·cases hy
    ·rename_i n hn
     cases hy
     obtain⟨n1,n2,_⟩:=a9v hn
     exact⟨rfl,rfl,rfl,rfl,rfl,.inr ⟨n,n1,rfl,by rw[a0y n1];exact n2,rfl,by rw[hp];rfl⟩⟩
 obtain⟨y1,y2,y3,y4,y5,y6⟩:=hy2
 have hmem:∀u∈c.us,∃k,k<c.us.length∧c.us.getD k 0=u:=fun u hu=>by
  obtain⟨k,hk,rfl⟩:=R7 hu
  exact⟨k,hk,l7 hk⟩
 have hds:∀j<w.s.R.length,(w.R j).state≤5→∀u∈c.us,u∉(w.R j).us:=fun j hj h5 u hu hin=>by
  have h1:=(hware u hu).2
  unfold L3 at h1
  cases hfd:w.s.R.find? fun r=> !decide (6≤r.state∧r.state≤9)&&r.us.contains u with
  |none=>
   rw[List.find?_eq_none]at hfd
   refine hfd _ (C5 hj) ?_
   rw[a1P,List.contains_iff_mem]
   exact⟨by simp;omega,hin⟩
  |some r=>
   rw[hfd]at h1
   have hr:=List.mem_of_find?_eq_some hfd
   obtain⟨k,hk,rfl⟩:=R7 hr
   have:=(I.ret k hk).num
   have e:w.R k=w.s.R[k]:=by unfold Wk.R;rw[l_s,l_r hk];rfl
   rw[e]at this
   simp only[Option.map_some,Option.getD_some]at h1
   omega
 have hRI:c1x D U w.s.R.length ⟨(w.s.R.length:Int)+1,c.ord,c.rea,c.want,y.1,c.cred||c.us.any fun u=>(C8 D.ps (j9 U u).cat).cre,1,w.s.now,c.us,c.us.map fun _=> -1,0,0,0,0⟩:=by
  refine⟨rfl,by simp only;omega,⟨by simp only;omega,by simp only;omega⟩,by simp only;omega,hnow,by simp,fun u hu=> ?_,fun _ _ _ g hg=> ?_,fun h=>by simp at h,fun h=>by simp at h,?_,by simp,fun _ _=>rfl⟩
  ·obtain⟨k,hk,rfl⟩:=hmem u hu
   exact(hunit k hk).2.2.2
  ·obtain⟨_,_,rfl⟩:=List.mem_map.1 hg;rfl
  ·exact(c0N (by simp) fun g hg=>by obtain⟨_,_,rfl⟩:=List.mem_map.1 hg;rfl).symm
 refine c2l (m:=⟨y.2.s.key,1,(w.s.R.length:Int)+1,0,1,y.2.s.now+1⟩) I (by have:=Wf.rl;omega) hRI rfl ⟨rfl,rfl⟩ (fun u hu=>(hware u hu).1) hds y6 rfl ?_ ?_ y4
 ·show y.2.s.O++_=_
  rw[y2]
 ·intro x hx
  have hx':x∈setT y.2.s.T _ _:=hx
  rcases a6D hx' with h|h
  ·exact .inr h
  ·rw[y3]at h;exact .inl h
theorem c0J(hD:Stc D U){sg:Sag}{c:Cmd}(I:Inv D U ⟨sg,[]⟩ 1000 0)(Wf:sg.wf U m):Inv D U ⟨(O5 D U sg c).2.2.2,[]⟩ 1000 0:=by
 have hsd:∀{v:Wk},Inv D U v 1000 0→Inv D U ⟨v.s,[]⟩ 1000 0:=fun {v} h=>by
  obtain⟨a,b,c,d,e,f,g,h,i,j,k,l,o,p⟩:=h
  exact⟨a,fun m hm=>⟨(b m hm).1,(b m hm).2,(b m hm).3,(b m hm).4,(b m hm).5,(b m hm).6⟩,c,d,e,f,g,h,i,j,k,l,o,⟨p.1,p.2,p.3,p.4,p.5⟩⟩
 have Wf':Wk.wf U m ⟨sg,[]⟩:=Wf
 unfold O5
 split
 ·exact I
 rename_i hd
 have hf:c.formed:=s7 (by cases hd':dcd c.formed with|false=>exact absurd hd' hd|true=>rfl)
 split
 ·exact I
 rename_i x hx
 simp only
 refine hsd ?_
 have hend:∀{n st:Int}{v:Wk},7≤st∧st≤9→M1 ⟨sg,[]⟩ n st= .ok v→Inv D U v 1000 0:=fun {n st v} hst h=>by
  have h2:=h
  unfold M1 at h2
  split at h2
  ·cases h2
  ·rename_i r hr
   obtain⟨i,e1,e2,hi,e3,_⟩:=Z7 hr
   split at h2
   ·cases h2
   ·rename_i st2 hn
    have h12:r.state=1∨r.state=2:=by unfold E4 at hn;grind
    obtain⟨a,b,_⟩:=a4t (i:=i) (st:=st) I Wf' hi (by rw[e3];exact h12) hst
    rw[e1,a]at h
    cases h
    exact b
 unfold doP at hx
 split at hx
 ·obtain⟨z,hz,rfl⟩:=u4 hx;exact c2N hD I Wf' hf (by assumption) hz
 split at hx
 ·obtain⟨z,hz,rfl⟩:=u4 hx;exact hend (by decide) hz
 split at hx
 ·obtain⟨z,hz,rfl⟩:=u4 hx;exact hend (by decide) hz
 split at hx
 ·obtain⟨z,hz,rfl⟩:=u4 hx
  have h:=hz
  unfold a2L H3 at h
  cases hat:(⟨sg,[]⟩:Wk).s.at_ c.rma with
  |none=>rw[hat]at h;cases h
  |some r=>
   obtain⟨i,e1,e2,hi,e3,_⟩:=Z7 hat
   rw[hat]at h
   cases hn:E4 r.state 2 with
   |none=>simp only[hn]at h;cases h
   |some st=>
    obtain⟨a,b⟩:=b2i I Wf' hi (by rw[e3];unfold E4 at hn;grind)
    rw[e1,a]at hz
    cases hz
    exact b
 split at hx
 ·obtain⟨z,hz,rfl⟩:=u4 hx
  have h:=hz
  unfold O4 H3 at h
  cases hat:(⟨sg,[]⟩:Wk).s.at_ c.rma with
  |none=>rw[hat]at h;cases h
  |some r=>
   obtain⟨i,e1,e2,hi,e3,_⟩:=Z7 hat
   rw[hat]at h
   cases hn:E4 r.state 3 with
   |none=>simp only[hn]at h;cases h
   |some st=>
    obtain⟨a,b⟩:=a6c I Wf' hi (by rw[e3];unfold E4 at hn;grind)
    rw[e1,a]at hz
    cases hz
    exact b
 split at hx
 ·obtain⟨z,hz,rfl⟩:=u4 hx
  unfold T8 at hz
  split at hz
  ·cases hz
  ·rename_i r hr
   obtain⟨i,e1,e2,hi,e3,_⟩:=Z7 hr
   split at hz
   ·cases hz
   ·rename_i h4
    split at hz
    ·cases hz
    ·rename_i k hk
     split at hz
     ·cases hz
     ·rename_i hg4
      subst e3
      rw[e2]at hz
      obtain⟨a,b⟩:=a9b hD I Wf' hi (Classical.not_not.1 h4) hk hg4
      rw[a]at hz
      cases hz
      exact b
 split at hx
 ·obtain⟨z,hz,rfl⟩:=u4 hx
  have h:=hz
  unfold a2h at h
  split at h
  ·cases h
  ·split at h
   ·cases h
   ·obtain⟨a,b⟩:=b2G hD I Wf' (by assumption) (by assumption)
    rw[a]at hz
    cases hz
    exact b
 ·obtain⟨z,hz,rfl⟩:=u4 hx
  unfold Z3 at hz
  split at hz
  ·cases hz
  ·rename_i k hk
   rw[a8w]at hk
   obtain⟨hk,_,_⟩:=hk
   have hgd:(⟨sg,[]⟩:Wk).s.O.getD k Msg.zero=sg.O[k]:=by rw[l_s,l_r hk];rfl
   simp only at hz
   split at hz
   ·cases hz
   ·rw[hgd]at hz
    obtain⟨a,b⟩:=a9d (w:=⟨sg,[]⟩) hD I Wf' hk (x:=sg.O[k]) rfl rfl c.yes rfl
    rw[a]at hz
    cases hz
    exact b
theorem c2u{C:Cfg}(hD:Stc D (l9 C)):Inv D (l9 C) ⟨C3 C,[]⟩ 1000 0:=by
 have hK:∀n<(C3 C).K.length,(C3 C).K.getD n KU0=⟨if(j9 (l9 C) n).ord<0 then 3 else 0,(j9 (l9 C) n).sku,false,false⟩:=fun n hn=>by
  have hl:(C3 C).K.length=(l9 C).length:=by show(U5 _ _).length=_;simp[U5]
  have hn':n<(l9 C).length:=by omega
  show(U5 _ _).getD n KU0=_
  simp[U5,l_s,j9,hn',a3u]
 constructor
 case flg=>
  intro n hn
  show a2d _ n ((C3 C).K.getD n KU0)
  rw[hK n hn]
  unfold a2d
  simp only
  split<;>simp<;>omega
 case own=>
  intro n hn h
  rw[a0y hn]at h
  have:=hK n hn
  rw[show(⟨C3 C,[]⟩:Wk).s.K=(C3 C).K from rfl,this]at h
  simp only at h
  split at h<;>omega
 case led=>exact⟨rfl,rfl,rfl,rfl,rfl⟩
 case cls=>exact List.Pairwise.nil
 case msg=>intro m hm;cases hm
 case tim=>intro m hm;cases hm
 all_goals(intro i hi;exact absurd hi (by simp[C3]))
end
end
section
def onR(w:Wk)(c:Cmd)(f:Nat→Except Int Wk):Except Int (Int×List Msg×Wk):=if c.rma<1∨w.s.R.length<c.rma then .error 7 else(f (c.rma-1).toNat).map fun w=>(0,[],w)
noncomputable def a7o(ps:List Pol)(ss:List Sup)(U:List Unt)(w:Wk)(c:Cmd)(i:Nat):Except Int Wk:=
 if(w.R i).state≠4 then .error 8 else if 4<c.grade then .error 1 else match(w.R i).us.findIdx? fun u=>decide (u=c.unit)with
  |none=> .error 7
  |some j=>if(w.R i).gs.getD j 0≠-1 then .error 8 else if c.grade=4 then .error 1 else .ok (a3Q ps ss U w c i j)
noncomputable def doQ(D:Cfg)(U:List Unt)(w:Wk)(c:Cmd):Except Int (Int×List Msg×Wk):=
 if c.kind=1 then(E5 D.ps D.os D.ss U w c).map fun x=>(x.1,[],x.2)
 else if c.kind=7 then(if c.days<1∨1000<c.days then .error 1 else if 100000<w.s.now+c.days then .error 2 else .ok (0,(a3C D.ss U w c.days).2,(a3C D.ss U w c.days).1))
 else if c.kind=8 then(match w.s.O.findIdx? fun m=>decide (m.key=c.key)with
  |none=> .error 16
  |some k=> .ok (0,[],T9 D.ss {w with s:={w.s with O:=w.s.O.take k++w.s.O.drop (k+1)} } (w.s.O.getD k Msg.zero) c.yes))
 else onR w c fun i=>if c.kind=2∨c.kind=3 then(if(w.R i).state=1∨(w.R i).state=2 then .ok (N4 w i (if c.kind=3 then 7 else 9))else .error 8)
  else if c.kind=4 then(if(w.R i).state=2 then .ok (a7N w i)else .error 8)
  else if c.kind=5 then(if(w.R i).state=3 then .ok (a0B w i)else .error 8)
  else a7o D.ps D.ss U w c i
noncomputable def a4Y(D:Cfg)(U:List Unt)(s:Sag)(c:Cmd):Int×List Msg×Int×Sag:=
 if dcd c.formed=false then(0,[],1,s)else match doQ D U ⟨s,[]⟩ c with
 | .error e=>(0,[],e,s)
 | .ok x=>(x.1,x.2.2.sd++x.2.1,0,x.2.2.s)
section
variable{D:Cfg}{U:List Unt}{w W:Wk}{e i j m:Nat}{q s:Int}{r:Ret}{K:List KU}{O:List Msg}
theorem a6s{n:Int}(h:n<1∨w.s.R.length<n):w.s.at_ n=none:=by
 unfold Sag.at_
 split
 ·rw[Y1 (by omega)]
 ·rfl
theorem b7q(hD:Stc D U)(I:Inv D U w 1000 0)(Wv:w.wf U m)(hi:i<w.s.R.length):(w.R i).right:=by
 have hI:=I.ret i hi
 have hok:=Wv.rr _ (C5 hi)
 have hwl:=I7 hD hI (Wv.len _ (C5 hi))
 have hrl:=Wv.rl
 have hkl:=Wv.kl
 have hul:=hD.ul
 have hos:=hD.cfg.2.1
 have hr:=I.res i hi
 have hres:(w.R i).res≤199:=by
  by_cases h0:0≤(w.R i).res
  ·have h:=(hr.2 h0).2.2
   have hne:i5 w.s.K (w.R i).res≠-1:=by omega
   unfold i5 at hne
   rw[if_pos h0]at hne
   by_cases hlt:(w.R i).res.toNat<w.s.K.length
   ·omega
   ·rw[Y1 (by omega)]at hne
    exact absurd rfl hne
  ·omega
 have ht:0≤(w.R i).paid∧0≤(w.R i).credd∧0≤(w.R i).given∧(w.R i).paid+(w.R i).credd+(w.R i).given≤(w.R i).worth:=by
  by_cases hf:fin (w.R i)
  ·have:=a4d hD I (by omega) hi hf
   split at this<;>omega
  ·have h1:=hI.pos
   have h2:=hI.nil (fun h=>hf (.inl h)) (fun h=>hf (.inr h))
   unfold tol at h2
   omega
 have h4:=hI.rea
 unfold isR at h4
 refine⟨?_,?_,?_,hI.want,⟨hr.1,hres⟩,hI.st,hI.day,hok.1,?_,?_,?_,?_⟩
 ·have:=hI.num;unfold btw;omega
 ·have:=hI.ord;unfold btw;omega
 ·unfold btw;omega
 all_goals(unfold a0S btw;omega)
theorem c3t(hD:Stc D U){c:Cmd}(I:Inv D U w 1000 0)(Wv:w.wf U m)(hc:c.formed):doP D U w c=doQ D U w c:=by
 have hf:=hc.1
 have hrl:=Wv.rl
 have hI:∀{i:Nat},i<w.s.R.length→1≤(w.R i).state∧(w.R i).state≤9:=fun hi=>(I.ret _ hi).st
 have hend:∀st:Int,7≤st∧st≤9→(M1 w c.rma st).map (fun x=>((0:Int),([]:List Msg),x))=onR w c fun i=>if(w.R i).state=1∨(w.R i).state=2 then .ok (N4 w i st)else .error 8:=fun st hst=>by
  unfold onR
  split
  ·rename_i h
   unfold M1
   rw[a6s h]
   rfl
  ·rename_i h
   obtain⟨i,hi⟩:∃i:Nat,c.rma=i+1:=⟨(c.rma-1).toNat,by omega⟩
   have hil:i<w.s.R.length:=by omega
   rw[hi,show((i:Int)+1-1).toNat=i by omega]
   dsimp only
   split
   ·rw[(a4t I Wv hil (by assumption) hst).1]
   ·rename_i hs
    unfold M1
    rw[b1i hil]
    simp only
    rw[show E4 (w.R i).state st=none by unfold E4;grind]
 unfold doP doQ
 by_cases k1:c.kind=1
 ·rw[if_pos k1,if_pos k1]
 rw[if_neg k1,if_neg k1]
 by_cases k2:c.kind=2
 ·rw[if_pos k2,if_neg (by omega),if_neg (by omega),hend 9 (by decide)]
  congr 1
  funext i
  rw[if_pos (show c.kind=2∨c.kind=3 from .inl k2),if_neg (show ¬c.kind=3 by omega)]
 rw[if_neg k2]
 by_cases k3:c.kind=3
 ·rw[if_pos k3,if_neg (by omega),if_neg (by omega),hend 7 (by decide)]
  congr 1
  funext i
  rw[if_pos (show c.kind=2∨c.kind=3 from .inr k3),if_pos k3]
 rw[if_neg k3]
 by_cases k4:c.kind=4
 ·rw[if_pos k4,if_neg (by omega),if_neg (by omega)]
  unfold onR
  split
  ·rename_i h
   unfold a2L H3
   rw[a6s h]
   rfl
  ·rename_i h
   obtain⟨i,hi⟩:∃i:Nat,c.rma=i+1:=⟨(c.rma-1).toNat,by omega⟩
   have hil:i<w.s.R.length:=by omega
   rw[hi,show((i:Int)+1-1).toNat=i by omega]
   dsimp only
   rw[if_neg (show ¬(c.kind=2∨c.kind=3) by omega)]
   split
   ·rw[(b2i I Wv hil (by assumption)).1]
   ·rename_i hs
    unfold a2L H3
    rw[b1i hil]
    simp only
    rw[show E4 (w.R i).state 2=none by unfold E4;grind]
    rfl
 rw[if_neg k4]
 by_cases k5:c.kind=5
 ·rw[if_pos k5,if_neg (by omega),if_neg (by omega)]
  unfold onR
  split
  ·rename_i h
   unfold O4 H3
   rw[a6s h]
   rfl
  ·rename_i h
   obtain⟨i,hi⟩:∃i:Nat,c.rma=i+1:=⟨(c.rma-1).toNat,by omega⟩
   have hil:i<w.s.R.length:=by omega
   rw[hi,show((i:Int)+1-1).toNat=i by omega]
   dsimp only
   rw[if_neg (show ¬(c.kind=2∨c.kind=3) by omega)]
   split
   ·rw[(a6c I Wv hil (by assumption)).1]
   ·rename_i hs
    unfold O4 H3
    rw[b1i hil]
    simp only
    rw[show E4 (w.R i).state 3=none by unfold E4;grind]
    rfl
 rw[if_neg k5]
 by_cases k6:c.kind=6
 ·rw[if_pos k6,if_neg (by omega),if_neg (by omega)]
  have hg:0≤c.grade:=by
   unfold Cmd.fits at hf
   rw[if_neg k1,if_neg (by omega),if_pos k6]at hf
   exact hf.2.2.1
  unfold onR T8
  by_cases h:c.rma<1∨w.s.R.length<c.rma
  ·rw[if_pos h,a6s h]
   rfl
  ·rw[if_neg h]
   obtain⟨i,hi⟩:∃i:Nat,c.rma=i+1:=⟨(c.rma-1).toNat,by omega⟩
   have hil:i<w.s.R.length:=by omega
   rw[hi,b1i hil,show((i:Int)+1-1).toNat=i by omega]
   show _=Except.map _ (if c.kind=2∨c.kind=3 then _ else if c.kind=4 then _ else if c.kind=5 then _ else _)
   rw[if_neg (show ¬(c.kind=2∨c.kind=3) by omega),if_neg k4,if_neg k5]
   unfold a7o
   simp only
   split
   ·rfl
   ·rename_i h4
    have hr:=b7q hD I Wv hil
    by_cases hb:4<c.grade
    ·rw[if_pos hb]
     have:N9 (w.R i) c.unit c.grade= .error 1:=by
      unfold N9
      rw[if_pos (dF fun h=>by have:=h.2.2;omega)]
     rw[this]
    ·rw[if_neg hb]
     have hE:N9 (w.R i) c.unit c.grade=match(w.R i).us.findIdx? fun u=>decide (u=c.unit)with
      |none=> .error 7
      |some j=>if(w.R i).gs.getD j 0≠-1 then .error 8 else .ok j:=by
      unfold N9
      rw[if_neg (by rw[dT ⟨hr,⟨hg,by omega⟩⟩];decide)]
      rfl
     cases hfd:(w.R i).us.findIdx? fun u=>decide (u=c.unit)with
     |none=>rw[hE,hfd]
     |some j=>
      rw[hfd]at hE
      simp only at hE⊢
      by_cases hgj:(w.R i).gs.getD j 0≠-1
      ·rw[if_pos hgj]at hE⊢
       rw[hE]
      ·rw[if_neg hgj]at hE⊢
       rw[hE]
       simp only
       split
       ·rfl
       ·rename_i hg4
        rw[(a9b hD I Wv hil (Classical.not_not.1 h4) hE hg4).1]
 rw[if_neg k6]
 by_cases k7:c.kind=7
 ·rw[if_pos k7,if_pos k7]
  split
  ·rename_i h;unfold a2h;rw[if_pos h];rfl
  ·rename_i h1
   split
   ·rename_i h2;unfold a2h;rw[if_neg h1,if_pos h2];rfl
   ·rename_i h2
    rw[(b2G hD I Wv h1 h2).1]
    rfl
 rw[if_neg k7,if_neg k7]
 have k8:c.kind=8:=by
  unfold Cmd.fits at hf
  rw[if_neg k1,if_neg (by omega),if_neg k6,if_neg k7]at hf
  by_cases h:c.kind=8
  ·exact h
  ·rw[if_neg h]at hf;exact hf.elim
 rw[if_pos k8]
 unfold Z3
 cases hfd:w.s.O.findIdx? fun m=>decide (m.key=c.key)with
 |none=>rfl
 |some k=>
  have hk:=(List.findIdx?_eq_some_iff_getElem.1 hfd).1
  have hgd:w.s.O.getD k Msg.zero=w.s.O[k]:=by rw[l_s,l_r hk];rfl
  simp only
  rw[hgd]
  have hm:=(I.msg _ (l_v hk)).rma
  have hat:(⟨{w.s with O:=w.s.O.take k++w.s.O.drop (k+1)},w.sd⟩:Wk).s.at_ w.s.O[k].rma=some (w.R (w.s.O[k].rma-1).toNat):=by
   have:=b1i (w:=w) (i:=(w.s.O[k].rma-1).toNat) (by omega)
   rw[show(((w.s.O[k].rma-1).toNat:Nat):Int)+1=w.s.O[k].rma by omega]at this
   exact this
  rw[hat]
  simp only
  rw[(a9d hD I Wv hk (x:=w.s.O[k]) rfl rfl c.yes rfl).1]
  rfl
theorem c2W(hD:Stc D U){sg:Sag}{c:Cmd}(I:Inv D U ⟨sg,[]⟩ 1000 0)(Wv:sg.wf U m):O5 D U sg c=a4Y D U sg c:=by
 unfold O5 a4Y
 split
 ·rfl
 ·rename_i hd
  have hf:c.formed:=s7 (by cases hd':dcd c.formed with|false=>exact absurd hd' hd|true=>rfl)
  rw[c3t hD I Wv hf]
  rfl
end
end
section
set_option maxHeartbeats 4000000
structure V3 where
 p:Nat
 A:Option Addr
 c:Nat
def x6(C:Cfg)(u k r t o sd:Value)(s:Sag):List Value:=[.slice C.A1 C.os.length C.c1,.slice C.A2 C.ss.length C.c2,.slice C.A3 C.ps.length C.c3,u,k,.int .i64 s.led.a,.int .i64 s.led.b,.int .i64 s.led.c,.int .i64 s.led.d,.int .i64 s.led.e,r,t,o,.int .i64 s.key,.int .i64 s.now,sd]
def n9(L:V3)(C:Cfg)(u:Value)(w:Wk):HP:=exA fun x:(Value×Value×Value×Value)×List i0=>a1U (b2n (x.2.map i0.r=w.s.R)::
 d9 L.p (x6 C u x.1.1 (.slice L.A w.s.R.length L.c) x.1.2.1 x.1.2.2.1 x.1.2.2.2 w.s) 68::i4 KU.enc 4 76 x.1.1 w.s.K::i4 tmE 2 139 x.1.2.1 w.s.T::i4 Msg.enc 6 127 x.1.2.2.1 w.s.O::
 i4 i0.enc 14 70 (.slice L.A w.s.R.length L.c) x.2::i4 Msg.enc 6 127 x.1.2.2.2 w.sd::x.2.map j2)
def moL(L:V3)(C:Cfg)(u:Value)(w:Wk)(k t o sd:Value)(vs:List i0)(l:List HP):List HP:=d9 L.p (x6 C u k (.slice L.A w.s.R.length L.c) t o sd w.s) 68::i4 KU.enc 4 76 k w.s.K::i4 tmE 2 139 t w.s.T::i4 Msg.enc 6 127 o w.s.O::
 i4 i0.enc 14 70 (.slice L.A w.s.R.length L.c) vs::i4 Msg.enc 6 127 sd w.sd::(vs.map j2++l)
section
variable{h0 h:c9}{l:List HP}{L:V3}{C:Cfg}{u:Value}{w:Wk}{U:List Unt}
theorem St.mo:St h0 h (n9 L C u w::l)↔∃(k t o sd:Value) (vs:List i0),vs.map i0.r=w.s.R∧St h0 h (moL L C u w k t o sd vs l):=by
 rw[n9,St.ex]
 constructor
 ·rintro⟨⟨⟨k,t,o,sd⟩,vs⟩,S⟩
  obtain⟨hv,S⟩:=St.pure.1 (St.stars.1 S)
  exact⟨k,t,o,sd,vs,hv,S⟩
 ·rintro⟨k,t,o,sd,vs,hv,S⟩
  exact⟨⟨⟨k,t,o,sd⟩,vs⟩,St.stars.2 (St.pure.2 ⟨hv,S⟩)⟩
section
variable{k t o sd:Value}{vs:List i0}{A:Option Addr}{n c:Nat}{K:Value→c9→Prop}{x:Tag h}{y:Tag K}
theorem St.moF(S:St h0 h (moL L C u w k t o sd vs l)):∀off,rd1 h (.pointer (some ⟨L.p,off,none⟩))=(x6 C u k (.slice L.A w.s.R.length L.c) t o sd w.s)[off]? :=fun off=>j3 (St.blk S)
theorem St.moC(S:St h0 h (moL L C u w k t o sd vs l)):rdN h L.p 0 3=some C.enc:=v8 (St.blk S) (l_a rfl)
theorem c0E{T':List Tm}(hv:vs.map i0.r=w.s.R)(S:St h0 h (i4 tmE 2 139 (.slice A n c) T'::moL L C u w k t o sd vs l))(hk:∀h',St h0 h' (n9 L C u {w with s:={w.s with T:=T'} }::l)→K undef h'):P8 1 (.pointer (some ⟨L.p,11,none⟩)) [.slice A n c] h K x y:=by
 refine tS S.p1 rfl rfl (l_a rfl) fun h' S'=>hk _ (St.mo.2 ⟨k,.slice A n c,o,sd,vs,hv,?_⟩)
 exact S'.p3.tl.p2.p1
theorem b4a{O':List Msg}(hv:vs.map i0.r=w.s.R)(S:St h0 h (i4 Msg.enc 6 127 (.slice A n c) O'::moL L C u w k t o sd vs l))(hk:∀h',St h0 h' (n9 L C u {w with s:={w.s with O:=O'} }::l)→K undef h'):P8 1 (.pointer (some ⟨L.p,12,none⟩)) [.slice A n c] h K x y:=by
 refine tS S.p1 rfl rfl (l_a rfl) fun h' S'=>hk _ (St.mo.2 ⟨k,t,.slice A n c,sd,vs,hv,?_⟩)
 exact S'.p4.tl.p3.p3.p2
end
theorem St.moRet{b i:Nat}(S:St h0 h (n9 L C u w::l))(hA:L.A=some ⟨b,0,none⟩)(hi:i<w.s.R.length):
  ∃x:i0,x.r=w.R i∧(∀j,j<14→rd1 h (.pointer (some ⟨b,i*14+j,none⟩))=x.enc[j]?)∧rdN h b (i*14) 14=some x.enc∧Arr i6 1 h x.A x.r.us∧Arr i6 1 h x.B x.r.gs:=by
 obtain⟨k,t,o,sd,vs,hv,S⟩:=St.mo.1 S
 have hil:i<vs.length:=by rw[←hv,l_z]at hi;exact hi
 have e:vs[i].r=w.R i:=by
  unfold Wk.R
  rw[←hv,l_s,a0H,l_r hil]
  rfl
 have S4:=S.p4
 rw[hA]at S4
 obtain⟨b',o',hb,q⟩:=(S4.arr i0.enc_len).at hil
 cases hb
 have hr:=K4 S (x:=vs[i]) (by simp only[moL,l_e,l_y];exact .inr (.inr (.inr (.inr (.inr (.inr (.inl (a0I (l_v hil)))))))))
 refine⟨vs[i],e,fun j hj=>u2 i0.enc_len S4 hil hj,?_,hr.1,hr.2⟩
 rw[Nat.zero_add]at q
 exact q
theorem L8{b i j:Nat}{v:Value}{r':Ret}{K:Value→c9→Prop}{s:Tag h}{t:Tag K}(S:St h0 h (n9 L C u w::l))(hA:L.A=some ⟨b,0,none⟩)(hi:i<w.s.R.length)(hj:j<14)(hp:pC [v]=true)
  (hu:r'.us=(w.R i).us) (hg:r'.gs=(w.R i).gs) (hx:∀x:i0,x.r=w.R i→i0.enc {x with r:=r'}=v5 x.enc j [v]) (hk:∀h',St h0 h' (n9 L C u (w.put i r')::l)→K undef h'):P8 1 (.pointer (some ⟨b,i*14+j,none⟩)) [v] h K s t:=by
 obtain⟨k,tt,o,sd,vs,hv,S⟩:=St.mo.1 S
 have hl:vs.length=w.s.R.length:=by rw[←hv,l_z]
 have hil:i<vs.length:=by omega
 have e:vs[i].r=w.R i:=by
  unfold Wk.R
  rw[←hv,l_s,a0H,l_r hil]
  rfl
 have S4:=S.p4
 rw[hA]at S4
 refine G8 i0.enc_len (i:=i) (j:=j) (x:={vs[i]with r:=r'}) S4 hil rfl (by simp;omega) rfl hp (hx _ e) ?_
 intro h' S'
 rw[←hA]at S'
 refine hk _ (St.mo.2 ⟨k,tt,o,sd,vs.set i {vs[i]with r:=r'},?_,?_⟩)
 ·rw[List.map_set,hv];rfl
 ·have e1:(vs.set i {vs[i]with r:=r'}).map j2=vs.map j2:=by
   rw[List.map_set]
   have:j2 {vs[i]with r:=r'}=(vs.map j2)[i]'(by rw[l_z];exact hil):=by
    rw[Y9]
    unfold j2
    simp only[hu,hg,e]
   rw[this,List.set_getElem_self]
  have e2:(w.put i r').s.R.length=w.s.R.length:=o7
  unfold moL
  rw[e1]
  show St h0 h' (d9 L.p (x6 C u k (.slice L.A (w.put i r').s.R.length L.c) tt o sd (w.put i r').s) 68::_::_::_::i4 i0.enc 14 70 (.slice L.A (w.put i r').s.R.length L.c) _::_)
  rw[e2]
  exact S'.p4.p4.p4.p4
end
end
theorem a6h{α:Type}{p:α→Bool}:∀{A B:List α},(∀y∈A,p y=true)→(∀y∈B,p y=false)→(A++B).takeWhile p=A∧(A++B).dropWhile p=B
 | [],[],_,_=>⟨rfl,rfl⟩
 | [],b::B,_,h=>by
  have:=h b (by simp)
  simp[this]
 |a::A,B,h1,h2=>by
  have:=h1 a (by simp)
  obtain⟨e1,e2⟩:=a6h (A:=A) (B:=B) (fun y hy=>h1 y (by simp[hy])) h2
  simp[this,e1,e2]
theorem b1f{a b c:Tm}(h1:n7 a b)(h2:n7 b c):n7 a c:=by unfold n7 at*;omega
theorem c0x{T:List Tm}(hs:T.Pairwise n7){x:Tm}(hn:∀y∈T,y.num≠x.num){k:Nat}(hk:k≤T.length)(h1:∀y∈T.drop k,n7 x y)(h2:∀(h:0<k),¬n7 x (T[k-1]'(by omega))):T.take k++x::T.drop k=b3x T x:=by
 have ha:∀y∈T.take k,n7 y x:=fun y hy=>by
  obtain⟨j,hj,rfl⟩:=R7 hy
  rw[x4]at hj
  rw[List.getElem_take]
  have hl:n7 (T[k-1]'(by omega)) x:=a5S (h2 (by omega)) (fun e=>hn _ (l_v _) e.symm)
  by_cases e:j=k-1
  ·subst e;exact hl
  ·exact b1f (List.pairwise_iff_getElem.1 hs j (k-1) (by omega) (by omega) (by omega)) hl
 have hb:∀y∈T.drop k,¬n7 y x:=fun y hy h=>by
  have:=h1 y hy
  unfold n7 at*
  omega
 have:=a6h (p:=fun y=>decide (n7 y x)) (A:=T.take k) (B:=T.drop k) (fun y hy=>decide_eq_true (ha y hy)) (fun y hy=>decide_eq_false (hb y hy))
 rw[G0]at this
 rw[b4W,this.1,this.2]
theorem a8s{T:List Tm}(hs:T.Pairwise n7)(d:Int):T.filter (fun x=>decide (x.day≤d))=O8 T d:=by
 induction T with
 |nil=>rfl
 |cons x T ih=>
  rw[List.pairwise_cons]at hs
  unfold O8 at*
  rw[List.filter_cons,List.takeWhile_cons]
  split
  ·rw[ih hs.2]
  ·rename_i h
   rw[List.filter_eq_nil_iff.2]
   intro y hy
   have:=hs.1 y hy
   unfold n7 at this
   simp only[decide_eq_true_eq]at h⊢
   omega
theorem b2O(A B:List Tm)(n:Int):without (A++B) n=without A n++without B n:=List.filter_append ..
theorem b2P{A:List Tm}{n:Int}(h:∀y∈A,y.num≠n):without A n=A:=by
 unfold without
 rw[List.filter_eq_self]
 intro y hy
 simp[Z6,h y hy]
theorem b2D:∀{A B:List Tm},(A++B).Pairwise (fun a b=>a.num≠b.num)→(A.map Tm.num).foldl without (A++B)=B
 | [],B,_=>rfl
 |a::A,B,h=>by
  rw[l_j,List.pairwise_cons]at h
  simp only[G7,List.foldl_cons]
  have:without (a::A++B) a.num=A++B:=by
   have h1:without (A++B) a.num=A++B:=b2P fun y hy e=>h.1 y hy e.symm
   show without (a::(A++B)) a.num=_
   unfold without at h1⊢
   rw[List.filter_cons,h1]
   simp[Z6]
  rw[this]
  exact b2D h.2
theorem b4b{T:List Tm}(hn:T.Pairwise (fun a b=>a.num≠b.num))(d:Int):((O8 T d).map Tm.num).foldl without T=O1 T d:=by
 have e:T=O8 T d++O1 T d:=(List.takeWhile_append_dropWhile).symm
 have:=b2D (A:=O8 T d) (B:=O1 T d) (by rw[←e];exact hn)
 rwa[←e]at this
theorem b9k{O:List Msg}(hp:O.Pairwise (fun a b=>a.key≠b.key)){k:Int}{j:Nat}(hj:j<O.length)(h:O[j].key=k):O.findIdx? (fun m=>decide (m.key=k))=some j:=by
 rw[a8w]
 refine⟨hj,decide_eq_true h,fun i hi hc=> ?_⟩
 have:=List.pairwise_iff_getElem.1 hp i j (by omega) hj hi
 exact this (by rw[h];exact of_decide_eq_true hc)
end Go.Proofs.YtjagmebglhbdkaaGreat.MX
