import Derived.Test.YtjagmebglhbdkaaGreatK27
namespace Go.Proofs.YtjagmebglhbdkaaGreat.MX
open Go Go.Proofs
set_option linter.unusedSimpArgs false
set_option linter.unusedVariables false
section
section
variable{D:Cfg}{U:List Unt}{w W:Wk}{e i j:Nat}{q s:Int}{r:Ret}{K:List KU}{O:List Msg}
theorem b6R(I:Inv D U w i q)(hi:i<w.s.R.length)(h5:(w.R i).state=5)(hr:0≤(w.R i).res)(h7:i5 w.s.K (w.R i).res=7)(hno:∀x∈w.s.O,x.kind=3→x.rma≠i+1)(hs0:0≤s)
  (hR:W.s.R=w.s.R.set i {w.R i with given:=(w.R i).given+s}) (hK:W.s.K=E3 w.s.K (w.R i).res 8) (hO:W.s.O=w.s.O) (hT:W.s.T=w.s.T) (hL:W.s.led=⟨w.s.led.a,w.s.led.b-s,w.s.led.c,w.s.led.d,w.s.led.e+s⟩):Inv D U W i (q-s):=by
 obtain⟨hR,hn,hs⟩:=a0X hR hi
 have hI:=I.ret i hi
 have hfl:=a3a (U:=U) I.flg (w.R i).res 8
 have hkl:W.s.K.length=w.s.K.length:=by rw[hK];exact P4 _ _ _
 rw[←hK]at hfl
 have hP:∀m,i5 W.s.K m=if m=(w.R i).res then 8 else i5 w.s.K m:=fun m=>by rw[hK];exact a1s (by rw[h7];decide)
 constructor
 case ret=>
  intro j hj
  rw[hR]
  split
  ·subst j
   exact {hI with pos:=by have:=hI.pos;simp only;omega,nil:=fun h=>absurd h5 h}
  ·exact I.ret j (by omega)
 case msg=>
  intro m hm
  obtain⟨a1,a2,a3,a4,a5,a6⟩:=I.msg m (by grind)
  have hd:=I.dst i hi (m.rma-1).toNat (by omega)
  have hnr:m.kind=3→(m.rma-1).toNat≠i:=fun h=>by have:=hno m (by grind) h;omega
  generalize hj:(m.rma-1).toNat=j at*
  constructor<;>(try rw[hj])<;>grind
 case cls=>grind [I.cls]
 case res=>
  intro j hj
  have:=I.res j (by omega)
  have:=I.dst i hi j (by omega)
  have:=(I.ret j (by omega)).num
  grind [a2i]
 case dst=>grind [I.dst]
 case own=>
  intro n hn' h
  have:=I.own n (by omega)
  grind
 case flg=>exact hfl
 case thr=>
  intro j hj k hk
  rw[hR]at hk⊢
  have h:=I.thr j (by omega) k (by split at hk<;>simp_all)
  by_cases e:j=i
  ·rw[if_pos e]
   exact⟨fun h=>by simp only at h;omega,fun h=>by simp only at h;omega,fun h=>by simp only at h;omega⟩
  ·rw[if_neg e]
   generalize (w.R j).us.getD k 0=u at*
   unfold there at*
   grind
 case dsj=>grind [I.dsj]
 case mon=>
  intro j hj
  have h1:=I.mon j (by omega)
  grind [fin,tol,prc]
 case cl=>
  intro j hj
  have:=I.cl j (by omega)
  grind
 case op=>
  intro j hj
  have:=I.op j (by omega)
  grind
 case tim=>
  intro x hx
  have:=I.tim x (by grind)
  grind
 case led=>
  obtain⟨a1,a2,a3,a4,a5⟩:=I.led
  constructor<;>rw[hs,hL]<;>simp[U3,U4,fin,tol,h5]<;>omega
theorem a2B(I:Inv D U w e q)(hR:W.s.R=w.s.R)(hK:W.s.K=w.s.K)(hL:W.s.led=w.s.led)(hT:∀x∈W.s.T,x∈w.s.T){f:Msg→Msg}{p:Msg→Bool}(hf:∀m,(f m).kind=m.kind∧(f m).rma=m.rma∧(f m).value=m.value)(hp:∀m∈w.s.O,p m=false→m.kind=1)(hO:W.s.O=(w.s.O.filter p).map f):Inv D U W e q:=by
 have hx2:∀j,W.R j=w.R j:=fun j=>by unfold Wk.R;rw[hR]
 have hn:W.s.R.length=w.s.R.length:=by rw[hR]
 have hm:∀x∈W.s.O,∃y∈w.s.O,x.kind=y.kind∧x.rma=y.rma∧x.value=y.value:=fun x hx=>by
  rw[hO]at hx
  obtain⟨y,hy,rfl⟩:=List.mem_map.1 hx
  exact⟨y,(List.mem_filter.1 hy).1,hf y⟩
 have hm':∀y∈w.s.O,y.kind≠1→∃x∈W.s.O,x.kind=y.kind∧x.rma=y.rma:=fun y hy hk=>by
  rw[hO]
  refine⟨f y,a0I (List.mem_filter.2 ⟨hy,?_⟩),(hf y).1,(hf y).2.1⟩
  cases h:p y with
  |true=>rfl
  |false=>exact absurd (hp y hy h) hk
 have hd:∀pr n,N8 pr n W.s.O=N8 pr n w.s.O:=fun pr n=>by
  rw[hO,←(a1J (pr:=pr) (n:=n) (p:=p) (O:=w.s.O) fun m h1 h2=> .inl (hp m h1 h2)).1]
  unfold N8
  rw[List.map_map]
  congr 1
  refine List.map_congr_left fun m _=> ?_
  have:=hf m
  simp[a1H,this]
 have hw:∀n,l8 n W.s.O=l8 n w.s.O:=fun n=>by
  rw[hO,←(a1J (pr:=0) (n:=n) (p:=p) (O:=w.s.O) fun m h1 h2=> .inl (hp m h1 h2)).2]
  unfold l8
  rw[List.filter_map,l_z]
  congr 2
  funext m
  have:=hf m
  simp[this]
 constructor
 case ret=>intro j hj;rw[hx2];exact I.ret j (by omega)
 case msg=>
  intro x hx
  obtain⟨y,hy,e1,e2,e3⟩:=hm x hx
  obtain⟨a1,a2,a3,a4,a5,a6⟩:=I.msg y hy
  rw[←e1,←e2,←e3]at*
  generalize hj:(x.rma-1).toNat=j at*
  constructor<;>(try rw[hj])<;>grind
 case cls=>
  rw[hO,List.pairwise_map]
  refine(I.cls.sublist List.filter_sublist).imp fun {a b} h=> ?_
  have:=hf a
  have:=hf b
  unfold a1g at*
  grind
 case res=>
  intro j hj
  have:=I.res j (by omega)
  unfold a2i at*
  grind
 case dst=>grind [I.dst]
 case own=>grind [I.own]
 case flg=>grind [I.flg]
 case thr=>grind [I.thr]
 case dsj=>grind [I.dsj]
 case mon=>
  intro j hj
  have h1:=I.mon j (by omega)
  rw[hd,hx2]
  exact h1
 case cl=>
  intro j hj
  rw[hw,hx2]
  exact I.cl j (by omega)
 case op=>
  intro j hj
  rw[hw,hx2]
  exact I.op j (by omega)
 case tim=>
  intro x hx
  have:=I.tim x (hT x hx)
  grind
 case led=>
  obtain⟨a1,a2,a3,a4,a5⟩:=I.led
  constructor<;>rw[hL,hR]<;>assumption
theorem c2l{m:Msg}(I:Inv D U w e 0)(he:w.s.R.length+1≤e)(hr:c1x D U w.s.R.length r)(h1:r.state=1)(hm:m.kind=1∧m.rma=w.s.R.length+1)
  (hp0:∀u∈r.us,i5 w.s.K u=0) (hds:∀j<w.s.R.length,(w.R j).state≤5→∀u∈r.us,u∉(w.R j).us)
  (hres:r.res= -1∧W.s.K=w.s.K∨∃n:Nat,n<w.s.K.length∧r.res=n∧i5 w.s.K n=3∧W.s.K=w.s.K.set n {w.s.K.getD n KU0 with place:=7}∧(u3 D.ss r.want).isSome=true)
  (hR:W.s.R=w.s.R++ [r]) (hO:W.s.O=w.s.O++ [m]) (hT:∀x∈W.s.T,x∈w.s.T∨x.num=w.s.R.length+1) (hL:W.s.led=w.s.led):Inv D U W e 0:=by
 have hn:W.s.R.length=w.s.R.length+1:=by rw[hR];simp
 have hx:∀j,W.R j=if j=w.s.R.length then r else w.R j:=fun j=>by
  unfold Wk.R
  rw[hR,l_s,l_s]
  split
  ·rename_i h;subst h;simp
  ·rename_i h
   by_cases h2:j<w.s.R.length
   ·rw[List.getElem?_append_left h2]
   ·rw[Y1 (by simp;omega),Y1 (by omega)]
 have hd:∀pr n,N8 pr n W.s.O=N8 pr n w.s.O:=fun pr n=>by
  rw[hO,a7i,a1H,if_neg (show ¬m.kind=2 by omega),if_neg (show ¬m.kind=3 by omega)];simp
 have hw:∀n,l8 n W.s.O=l8 n w.s.O:=fun n=>by rw[hO,a2b,if_neg (fun h=>h.2 hm.1)];rfl
 have hP:W.s.K.length=w.s.K.length∧(∀n,i5 W.s.K n=if n=r.res∧0≤r.res then 7 else i5 w.s.K n)∧∀n<W.s.K.length,a2d U n (W.s.K.getD n KU0):=by
  rcases hres with⟨h,hk⟩|⟨n,hn,h,h3,hk,_⟩
  ·rw[hk];exact⟨rfl,fun n=>by rw[if_neg (by omega)],I.flg⟩
  ·rw[hk]
   refine⟨by simp,fun k=> ?_,fun k hk2=> ?_⟩
   ·by_cases e:k=n
    ·subst e;rw[if_pos (by omega),a0y (by simpa using hn)];simp[List.getElem?_set_self hn]
    ·rw[if_neg (by omega)]
     unfold i5
     split
     ·rw[List.getElem?_set_ne (by omega)]
     ·rfl
   ·by_cases e:n=k
    ·subst e
     have hf:=I.flg n hn
     rw[a0y hn]at h3
     rw[l_s,List.getElem?_set_self hn,Option.getD_some]
     unfold a2d at*
     grind
    ·rw[l_s,List.getElem?_set_ne e,←l_s]
     exact I.flg k (by simpa using hk2)
 obtain⟨hkl,hP,hfl⟩:=hP
 have hr3:0≤r.res→i5 w.s.K r.res=3∧(u3 D.ss r.want).isSome=true:=fun h=>by
  rcases hres with⟨h,_⟩|⟨n,_,h,h3,_,h4⟩
  ·omega
  ·rw[h];exact⟨h3,h4⟩
 have hrm: -1≤r.res:=by rcases hres with⟨h,_⟩|⟨n,_,h,_⟩<;>omega
 have hrg:∀j<w.s.R.length,0≤(w.R j).res→(w.R j).res≠r.res:=fun j hj h0 h=>by
  have:=(I.res j hj).2 h0
  have:=(hr3 (by omega)).1
  rw[←h]at this
  omega
 constructor
 case ret=>
  intro j hj
  rw[hx]
  split
  ·rename_i h;rw[h];exact hr
  ·exact I.ret j (by omega)
 case msg=>
  intro x hx'
  rw[hO]at hx'
  rcases List.mem_append.1 hx' with h|h
  ·obtain⟨a1,a2,a3,a4,a5,a6⟩:=I.msg x h
   have:(x.rma-1).toNat<w.s.R.length:=by omega
   have h8:=fun h:i5 w.s.K x.value=8=>Y5 (K:=w.s.K) (n:=x.value) (by omega)
   generalize hj:(x.rma-1).toNat=j at*
   constructor<;>(try rw[hj])<;>grind
  ·obtain rfl:=List.mem_singleton.1 h
   have:(x.rma-1).toNat=w.s.R.length:=by omega
   refine⟨by omega,by omega,fun _=>by rw[this,hx,if_pos rfl];exact h1,fun h=>by omega,fun h=>by omega,fun h=>by omega⟩
 case cls=>
  rw[hO,a1o]
  refine⟨I.cls,by simp,fun a ha b hb hc=> ?_⟩
  obtain rfl:=List.mem_singleton.1 hb
  have:=(I.msg a ha).rma
  unfold a1g at hc
  omega
 case res=>
  intro j hj
  rw[hx]
  split
  ·refine⟨hrm,fun h=>⟨by omega,(hr3 h).2,.inl ⟨by rw[hP,if_pos ⟨rfl,h⟩],by omega,fun h=>by omega⟩⟩⟩
  ·have h2:=I.res j (by omega)
   have h3:=hrg j (by omega)
   have h4:∀x,x∈W.s.O↔x∈w.s.O∨x=m:=fun x=>by rw[hO];simp
   unfold a2i at*
   grind
 case dst=>
  intro j hj k hk hne he
  have h3:=hrg j
  have h4:=hrg k
  have h5:=I.dst j
  rw[hx,hx]at he
  rw[hx]
  have:=fun h=>(I.res j h).1
  have:=fun h=>(I.res k h).1
  grind
 case own=>
  intro n hn' h
  rw[hP]at h
  split at h
  ·exact⟨w.s.R.length,by omega,by rw[hx,if_pos rfl];omega⟩
  ·obtain⟨j,hj,h2⟩:=I.own n (by omega) h
   exact⟨j,by omega,by rw[hx,if_neg (by omega)];exact h2⟩
 case flg=>exact hfl
 case thr=>
  intro j hj k hk
  rw[hx]at hk⊢
  split at hk
  ·rename_i e
   rw[if_pos e,h1]
   have hu:=hp0 _ (l_v hk)
   rw[l7 hk,hP,if_neg (fun h=>by have:=(hr3 h.2).1;rw[←h.1]at this;omega),hu]
   exact⟨fun _=>rfl,fun h=>by omega,fun h=>by omega⟩
  ·rename_i e
   rw[if_neg e]
   have h:=I.thr j (by omega) k hk
   have h2:=fun h=>(hr3 h).1
   generalize (w.R j).us.getD k 0=u at*
   unfold there at*
   grind
 case dsj=>
  intro j hj k hk
  have:=I.dsj j
  have:=hds j
  have:=hds k
  rw[hx,hx]
  grind
 case mon=>
  intro j hj
  have h1:=I.mon j
  rw[hd,hx]
  grind [fin]
 case cl=>
  intro j hj
  rw[hw,hx]
  have:=I.cl j
  grind
 case op=>
  intro j hj
  rw[hw,hx]
  have:=I.op j
  grind
 case tim=>
  intro x hx'
  rcases hT x hx' with h|h
  ·have:=I.tim x h
   have:(x.num-1).toNat≠w.s.R.length:=by omega
   grind
  ·have:(x.num-1).toNat=w.s.R.length:=by omega
   rw[this,hx,if_pos rfl]
   omega
 case led=>
  have h2:=hr.nil (by omega) (by omega)
  have h3:=hr.pos
  obtain⟨a1,a2,a3,a4,a5⟩:=I.led
  unfold tol at h2
  constructor<;>rw[hR,hL]<;>simp[S8,U3,U4,fin,h1]<;>unfold S8 at* <;>omega
end
end
section
def K3(l:Led)(a b s:Int):Led:=(l.put a (l.get a-s)).put b (l.get b+s)
def G3(w:Wk)(i:Nat)(s:Int):Wk:=(w.put i {w.R i with credd:=(w.R i).credd+s}).led (K3 w.s.led 1 3 s)
def O3(w:Wk)(i:Nat)(s:Int):Wk:=if s=0 then w else if(w.R i).cred=true then G3 w i s else I4 w 2 (w.R i).num s
def a2g(ss:List Sup)(w:Wk)(i:Nat):Wk:=
 y8 (if 0≤(w.R i).res then(if(w.R i).worth<prc ss (w.R i)then O3 (j5 w i) i (w.R i).worth else O3 (I4 w 3 (w.R i).num (w.R i).res) i ((w.R i).worth-prc ss (w.R i)))else O3 w i (w.R i).worth) i
def N2(ss:List Sup)(w:Wk)(i:Nat):Wk:=a2g ss ((w.put i {w.R i with state:=5}).led (K3 w.s.led 0 1 (w.R i).worth)) i
section
variable{D:Cfg}{U:List Unt}{w W:Wk}{e i j m:Nat}{q s:Int}{r:Ret}{K:List KU}{O:List Msg}
theorem a5F(hD:Stc D U)(r:Ret):0≤prc D.ss r∧prc D.ss r≤1073741824:=by
 have:∀ss:List Sup,(∀x∈ss,a6a x)→0≤(u3 ss r.want).getD 0∧(u3 ss r.want).getD 0≤1073741824:=by
  intro ss
  induction ss with
  |nil=>intro _;exact⟨Int.le_refl 0,by show(0:Int)≤1073741824;decide⟩
  |cons x ss ih=>
   intro h
   unfold u3
   split
   ·exact(h x (by simp)).2.1
   ·exact ih fun y hy=>h y (by simp[hy])
 exact this _ hD.cfg.2.2.2.2.1.1
theorem I7(hD:Stc D U)(hI:c1x D U i r)(hl:r.us.length≤200∧r.gs.length=r.us.length):0≤r.worth∧r.worth≤858993459200:=by
 have h:=a3D (r:=r) hD.cfg.1 hD.sh r.us.length
 rw[a6i hl.2,←hI.worth]at h
 omega
theorem c1W(hD:Stc D U)(I:Inv D U w e q)(r:Ret)(n:Int):0≤N8 (prc D.ss r) n w.s.O:=b3m (a5F hD r).1 fun m hm hk=>by have:=((I.msg m hm).k2 hk).2;omega
theorem a4d(hD:Stc D U)(I:Inv D U w e q)(hq:0≤q)(hi:i<w.s.R.length)(hf:fin (w.R i)):0≤(w.R i).paid∧0≤(w.R i).credd∧0≤(w.R i).given∧(w.R i).paid+(w.R i).credd+(w.R i).given+(if i=e then q else 0)≤(w.R i).worth:=by
 have h1:=(I.ret i hi).pos
 have h2:=I.mon i hi hf
 have h3:=c1W hD I (w.R i) (i+1)
 unfold tol at h2
 omega
theorem b5E{f:Ret→Int}{a b:Int}:∀{R:List Ret},(∀r∈R,a≤f r∧f r≤b)→a*R.length≤S8 f R∧S8 f R≤b*R.length
 | [],_=>by simp[S8]
 |x::R,h=>by
  have h1:=b5E (R:=R) fun r hr=>h r (by simp[hr])
  have h2:=h x (by simp)
  simp only[S8,G7,K1,l_f]at h1⊢
  rw[Int.natCast_add,Int.mul_add,Int.mul_add]
  simp only[Int.natCast_one,Int.mul_one]
  omega
theorem b0m(hD:Stc D U)(I:Inv D U w e q)(hq:0≤q)(Wf:w.wf U m)(n:Int): -85899345920000≤w.s.led.get n∧w.s.led.get n≤85899345920000:=by
 have hb:∀f:Ret→Int,(∀i<w.s.R.length,0≤f (w.R i)∧f (w.R i)≤858993459200)→0≤S8 f w.s.R∧S8 f w.s.R≤85899345920000:=fun f h=>by
  have:=b5E (f:=f) (a:=0) (b:=858993459200) (R:=w.s.R) fun r hr=>by
   obtain⟨k,hk,rfl⟩:=R7 hr
   have:=h k hk
   unfold Wk.R at this
   rwa[l_s,l_r hk]at this
  have:=Wf.rl
  omega
 have hw:∀i<w.s.R.length,0≤(w.R i).worth∧(w.R i).worth≤858993459200:=fun i hi=>I7 hD (I.ret i hi) (Wf.len _ (C5 hi))
 have ht:∀i<w.s.R.length,0≤(w.R i).paid∧0≤(w.R i).credd∧0≤(w.R i).given∧(w.R i).paid+(w.R i).credd+(w.R i).given≤(w.R i).worth:=fun i hi=>by
  by_cases hf:fin (w.R i)
  ·have:=a4d hD I hq hi hf
   split at this<;>omega
  ·have h1:=(I.ret i hi).pos
   have h2:=(I.ret i hi).nil (fun h=>hf (.inl h)) (fun h=>hf (.inr h))
   have:=hw i hi
   unfold tol at h2
   omega
 obtain⟨a1,a2,a3,a4,a5⟩:=I.led
 have b1:=hb U3 fun i hi=>by have:=hw i hi;unfold U3;split<;>omega
 have b2:=hb U4 fun i hi=>by have:=hw i hi;have:=ht i hi;unfold U4 tol;split<;>omega
 have b3:=hb Ret.paid fun i hi=>by have:=hw i hi;have:=ht i hi;omega
 have b4:=hb Ret.credd fun i hi=>by have:=hw i hi;have:=ht i hi;omega
 have b5:=hb Ret.given fun i hi=>by have:=hw i hi;have:=ht i hi;omega
 unfold Led.get
 repeat' split
 all_goals omega
theorem a7x(hD:Stc D U)(I:Inv D U w e q)(hq:0≤q)(Wf:w.wf U m)(hs:0≤s∧s≤858993459200)(a b:Int):a1u w.s.led a b s= .ok (K3 w.s.led a b s):=by
 have:=b0m hD I hq Wf a
 have:=b0m hD I hq Wf b
 unfold a1u
 rw[if_neg (by omega),if_pos (by unfold okC;omega)]
 rfl
theorem a4f{n:Int}(h: -9223372036854775808≤n∧n≤9223372036854775807):w64 n=n:=u5 (by omega) (by omega)
theorem b5p(hD:Stc D U)(I:Inv D U w i q)(hq:0≤q)(Wf:w.wf U m)(hi:i<w.s.R.length)(h5:(w.R i).state=5):
  R9 w i q= .ok (O3 w i q)∧Inv D U (O3 w i q) i 0∧(O3 w i q).wf U (m+1)∧(O3 w i q).s.R.length=w.s.R.length∧(O3 w i q).s.K=w.s.K∧((O3 w i q).R i).state=5∧((O3 w i q).R i).res=(w.R i).res∧∀x∈w.s.O,x∈(O3 w i q).s.O:=by
 have hb:=a4d hD I hq hi (.inl h5)
 rw[if_pos rfl]at hb
 have hwl:=I7 hD (I.ret i hi) (Wf.len _ (C5 hi))
 have hp:R9 w i q= .ok (O3 w i q):=by
  unfold R9 O3
  split
  ·rfl
  ·split
   ·unfold X0 G3 Q5
    rw[a4f (by omega)]
    show(a1u w.s.led 1 3 q).map _=_
    rw[a7x hD I hq Wf (by omega)]
    rfl
   ·rfl
 obtain⟨g1,g2⟩:=a5D hi hp Wf
 refine⟨hp,?_,g1,g2,?_⟩
 ·unfold O3
  split
  ·rename_i h;rw[h]at I;exact I
  ·split
   ·have:=a5s (W:=G3 w i q) (p:=0) (c:=q) (g:=0) I hi h5 (by omega) (by simp[G3,Wk.led,Wk.put]) rfl rfl rfl (by simp[G3,Wk.led,K3,Led.put,Led.get])
    simpa using this
   ·have:=b4X (W:=I4 w 2 (w.R i).num q) (m:=⟨w.s.key,2,(w.R i).num,q,1,w.s.now+1⟩) (s:=q) I hi h5 (I.ret i hi).num (.inl ⟨rfl,by show 0<q;omega,rfl⟩) rfl rfl rfl rfl rfl
    simpa using this
 ·unfold O3
  split
  ·exact⟨rfl,h5,rfl,fun x h=>h⟩
  ·split
   ·unfold G3
    refine⟨rfl,?_,?_,fun x h=>h⟩
    ·show((w.put i _).R i).state=5
     rw[E0 hi];exact h5
    ·show((w.put i _).R i).res=_
     rw[E0 hi]
   ·exact⟨rfl,h5,rfl,fun x h=>Y0 _ h⟩
end
end
section
def N4(w:Wk)(i:Nat)(st:Int):Wk:=
 let w2:=j5 (w.put i {w.R i with state:=st}) i
 {w2 with s:={w2.s with T:=without w2.s.T (i+1),O:=dropL w2.s.O (i+1)} }
def a2G(U:List Unt)(r:Ret):Ret:={r with gs:=r.us.map fun _=>4,worth:=r.worth+(r.us.map fun u=>(j9 U u).share).sum}
def a3z(ss:List Sup)(U:List Unt)(w:Wk)(i:Nat):Wk:=N2 ss (t7 (w.put i (a2G U (w.R i))) (w.R i).us 6) i
def P7(ss:List Sup)(U:List Unt)(w:Wk)(num:Int):Wk:=
 let i:=(num-1).toNat
 if(w.R i).state=3 then a3z ss U w i else if(w.R i).state=1∨(w.R i).state=2 then N4 w i 8 else w
section
variable{D:Cfg}{U:List Unt}{w W:Wk}{e i j m:Nat}{q s:Int}{r:Ret}{K:List KU}{O:List Msg}
theorem b2t(hD:Stc D U)(I:Inv D U w i (w.R i).worth)(Wf:w.wf U m)(hi:i<w.s.R.length)(h5:(w.R i).state=5)(h7:0≤(w.R i).res→i5 w.s.K (w.R i).res=7)(hno:∀x∈w.s.O,x.kind=3→x.rma≠i+1):
  ((if 0≤(w.R i).res then(if(w.R i).worth<prc D.ss (w.R i)then R9 (j5 w i) i (w.R i).worth else R9 (I4 w 3 (w.R i).num (w.R i).res) i (w64 ((w.R i).worth-prc D.ss (w.R i))))else R9 w i (w.R i).worth).map fun w2=>y8 w2 i)= .ok (a2g D.ss w i)∧Inv D U (a2g D.ss w i) 1000 0∧(a2g D.ss w i).wf U (m+2)∧(a2g D.ss w i).s.R.length=w.s.R.length:=by
 have hwl:=I7 hD (I.ret i hi) (Wf.len _ (C5 hi))
 have hpr:=a5F hD (w.R i)
 have hrl:=Wf.rl
 have hI:=I.ret i hi
 have key:∀(v:Wk) (x:Int),Inv D U v i x→0≤x→v.wf U (m+1)→v.s.R.length=w.s.R.length→(v.R i).state=5→(0≤(v.R i).res→i5 v.s.K (v.R i).res=7→∃y∈v.s.O,y.kind=3∧y.rma=i+1)→
   (R9 v i x).map (fun w2=>y8 w2 i)= .ok (y8 (O3 v i x) i)∧Inv D U (y8 (O3 v i x) i) 1000 0∧(y8 (O3 v i x) i).wf U (m+2)∧(y8 (O3 v i x) i).s.R.length=w.s.R.length:=by
  intro v x Iv hx Wv hl h5v h3
  obtain⟨p1,p2,p3,p4,p5,p6,p7,p8⟩:=b5p hD Iv hx Wv (by omega) h5v
  obtain⟨c1,c2⟩:=a7b (i:=i) (by omega) p3
  refine⟨by rw[p1];rfl,a0f p2 (by omega) (.inr p6) (by omega) (fun a _ b=> ?_),c1,by omega⟩
  rw[p7]at a b
  rw[p5]at b
  obtain⟨y,y1,y2⟩:=h3 a b
  exact⟨y,p8 y y1,y2⟩
 unfold a2g
 split
 ·rename_i hr
  split
  ·rename_i hlt
   have hR0:j5 w i=(w.mv (w.R i).res 3).put i {w.R i with res:= -1}:=by rw[j5,if_pos hr]
   have hRi:(j5 w i).R i={w.R i with res:= -1}:=by rw[hR0];exact E0 hi
   have hIr:Inv D U (j5 w i) i (w.R i).worth:=a5X I hi h5 hr (h7 hr) hno (by rw[hR0];rfl) (by rw[hR0];rfl) (by rw[hR0];rfl) (by rw[hR0];rfl) (by rw[hR0];rfl)
   exact key _ _ hIr hwl.1 ((Wf.release hi).up (by omega)) (D4 _ _) (by rw[hRi];exact h5) (fun h=>by rw[hRi]at h;simp at h)
  ·rename_i hlt
   rw[a4f (by omega)]
   have hIs:Inv D U (I4 w 3 (w.R i).num (w.R i).res) i ((w.R i).worth-prc D.ss (w.R i)):=b4X (m:=⟨w.s.key,3,(w.R i).num,(w.R i).res,1,w.s.now+1⟩) I hi h5 hI.num (.inr ⟨rfl,rfl,hr,h7 hr,hno,rfl⟩) rfl rfl rfl rfl rfl
   exact key _ _ hIs (by omega) (Wf.say _ _ _) rfl h5 (fun _ _=>⟨⟨w.s.key,3,(w.R i).num,(w.R i).res,1,w.s.now+1⟩,a2l _ (by simp),rfl,hI.num⟩)
 ·rename_i hr
  exact key _ _ I hwl.1 (Wf.up (by omega)) rfl h5 (fun h=>absurd h hr)
theorem b9L(I:Inv D U w e q)(h5:(w.R i).state≠5):∀x∈w.s.O,x.kind=3→x.rma≠i+1:=fun x hx hk hr=>by
 have:=((I.msg x hx).k3 hk).1
 rw[show(x.rma-1).toNat=i by omega]at this
 exact h5 this
theorem b3W(hD:Stc D U)(I:Inv D U w 1000 0)(Wf:w.wf U m)(hi:i<w.s.R.length)(h4:(w.R i).state=4)(hg:∀g∈(w.R i).gs,0≤g):
  G5 D.ss w i 4= .ok (N2 D.ss w i)∧Inv D U (N2 D.ss w i) 1000 0∧(N2 D.ss w i).wf U (m+2)∧(N2 D.ss w i).s.R.length=w.s.R.length:=by
 have hwl:=I7 hD (I.ret i hi) (Wf.len _ (C5 hi))
 have hrl:=Wf.rl
 obtain⟨w1,hw1⟩:∃w1,w1=(w.put i {w.R i with state:=5}).led (K3 w.s.led 0 1 (w.R i).worth):=⟨_,rfl⟩
 have hR1:w1.R i={w.R i with state:=5}:=by rw[hw1];exact E0 hi
 have I1:Inv D U w1 i (w.R i).worth:=b3y I (by omega) hi h4 hg (by rw[hw1];rfl) (by rw[hw1];rfl) (by rw[hw1];rfl) (by rw[hw1];rfl) (by rw[hw1];simp[Wk.led,K3,Led.put,Led.get])
 have W1:w1.wf U m:=by rw[hw1];exact(Wf.putR (r:={w.R i with state:=5}) hi rfl rfl).led _
 have hl1:w1.s.R.length=w.s.R.length:=by rw[hw1];exact o7
 have hw:(w1.R i).worth=(w.R i).worth:=by rw[hR1]
 have hK1:w1.s.K=w.s.K:=by rw[hw1];rfl
 have hr:=b2t (m:=m) hD (w:=w1) (i:=i) (by rw[hw];exact I1) W1 (by omega) (by rw[hR1]) (fun h=>by
  rw[hR1]at h⊢
  have:=(I.res i hi).2 h
  rw[hK1]
  simp only
  omega) (by rw[show w1.s.O=w.s.O by rw[hw1];rfl];exact b9L I (by omega))
 obtain⟨r1,r2,r3,r4⟩:=hr
 unfold N2
 rw[←hw1]
 refine⟨?_,r2,r3,by omega⟩
 unfold G5
 rw[show E4 (w.R i).state 4=some 5 by rw[h4];rfl]
 simp only[Q5]
 rw[show(w.put i {w.R i with state:=5}).s.led=w.s.led from rfl,a7x hD I (by omega) Wf hwl]
 show Except.map _ _=_
 rw[←hw1]
 exact r1
theorem a5w(hD:Stc D U){r:Ret}(hr:w.R i=r)(hi:i<w.s.R.length)(hl:r.gs.length=r.us.length)(h0:0≤r.worth):∀j,j≤r.us.length→r.worth+4294967296*j≤9223372036854775807→u7 U w i j=t7 (w.put i {r with gs:=(r.us.take j).map (fun _=>4)++r.gs.drop j,worth:=r.worth+((r.us.take j).map fun u=>(j9 U u).share).sum}) (r.us.take j) 6
 |0,_,_=>by
  have:w.put i r=w:=by
   unfold Wk.put
   have:w.s.R.set i r=w.s.R:=by
    subst hr
    unfold Wk.R
    rw[l_s,l_r hi]
    exact List.set_getElem_self hi
   rw[this]
  simp only[u7,a2j,List.map_nil,l_k,a4D,List.sum_nil,Int.add_zero]
  rw[this]
  rfl
 |j+1,hj,hb=>by
  have ih:=a5w hD hr hi hl h0 j (by omega) (by omega)
  have hlt:j<r.us.length:=by omega
  have hsh:0≤((r.us.take j).map fun u=>(j9 U u).share).sum∧((r.us.take j).map fun u=>(j9 U u).share).sum≤4294967296*j:=by
   have:∀l:List Int,0≤(l.map fun u=>(j9 U u).share).sum∧(l.map fun u=>(j9 U u).share).sum≤4294967296*l.length:=by
    intro l
    induction l with
    |nil=>simp
    |cons x l ih=>have:=L0 hD.sh x;simp only[G7,K1,l_f];omega
   have:=this (r.us.take j)
   rw[x4]at this
   omega
  have hu:=L0 hD.sh r.us[j]
  rw[u7,ih]
  simp only
  rw[K2]
  have hRi:∀x K,Wk.R {(w.put i x)with s:={(w.put i x).s with K:=K} } i=x:=fun x K=>E0 hi
  rw[hRi]
  simp only
  rw[l7 hlt,a4f (by omega)]
  have hset:((r.us.take j).map (fun _=>(4:Int))++r.gs.drop j).set j 4=(r.us.take (j+1)).map (fun _=>4)++r.gs.drop (j+1):=by
   rw[a6l _ _ (by simp;omega),l_z,x4,Nat.min_eq_left (by omega),Nat.sub_self,X8 (by omega),l_h,l_t hlt,L7,l_q]
   rfl
  rw[hset,K2,l_t hlt,L7,L7,a2m]
  have hmv:a5z w.s.K (r.us.take j++ [r.us[j]]) 6=E3 (a5z w.s.K (r.us.take j) 6) r.us[j] 6:=by unfold a5z;rw[List.foldl_append];rfl
  simp only[Wk.put,Wk.mv,List.set_set,hmv,G7,List.map_nil,K1,List.sum_nil,Int.add_zero,Int.add_assoc]
theorem c4L(r:Ret):J7 D.ps U {r with gs:=r.us.map fun _=>4}=(r.us.map fun u=>(j9 U u).share).sum:=by
 unfold J7
 have:r.us.zip (r.us.map fun _=>(4:Int))=r.us.map fun u=>(u,4):=by
  induction r.us with
  |nil=>rfl
  |cons x l ih=>simp[ih]
 simp only[this,List.map_map]
 congr 1
theorem c0N{r:Ret}(hl:r.gs.length=r.us.length)(h:∀g∈r.gs,g= -1):J7 D.ps U r=0:=by
 unfold J7
 have:∀l:List (Int×Int),(∀x∈l,x.2= -1)→(l.map fun x=>T1 D.ps U r.rea x.1 x.2).sum=0:=by
  intro l
  induction l with
  |nil=>intro _;rfl
  |cons x l ih=>
   intro h
   rw[G7,K1,ih fun y hy=>h y (by simp[hy]),T1,h x (by simp)]
   rfl
 exact this _ fun x hx=>h _ (List.of_mem_zip hx).2
theorem b9v(hD:Stc D U)(I:Inv D U w 1000 0)(Wf:w.wf U m)(hi:i<w.s.R.length)(h3:(w.R i).state=3)(hT:∀x∈w.s.T,x.num≠i+1):
  a7C D.ss U w i= .ok (a3z D.ss U w i)∧Inv D U (a3z D.ss U w i) 1000 0∧(a3z D.ss U w i).wf U (m+2)∧(a3z D.ss U w i).s.R.length=w.s.R.length:=by
 have hI:=I.ret i hi
 have hgl:=Wf.len _ (C5 hi)
 have hwl:=I7 hD hI hgl
 have hrl:=Wf.rl
 have hw0:(w.R i).worth=0:=by rw[hI.worth];exact c0N hgl.2 (hI.g0 (by omega) (by omega) (by omega))
 have hls:u7 U w i (w.R i).us.length=t7 (w.put i (a2G U (w.R i))) (w.R i).us 6:=by
  rw[a5w hD rfl hi hgl.2 hwl.1 _ (x9 _) (by omega),C9,List.drop_of_length_le (by omega),D9]
  rfl
 obtain⟨v,hv⟩:∃v,v=t7 (w.put i (a2G U (w.R i))) (w.R i).us 6:=⟨_,rfl⟩
 have hv2:=hv
 rw[K2]at hv2
 have hRv:v.R i=a2G U (w.R i):=by rw[hv2];exact E0 hi
 obtain⟨l1,l2,l3⟩:=a4G (U:=U) (w:=w) hi Wf (w.R i).us.length
 rw[hls,←hv]at l1 l2 l3
 obtain⟨n,hn⟩:∃n,n=(a2G U (w.R i)).worth:=⟨_,rfl⟩
 have hnw:n=J7 D.ps U {w.R i with gs:=(w.R i).us.map fun _=>4}:=by rw[hn,c4L];unfold a2G;simp[hw0]
 obtain⟨w1,hw1⟩:∃w1,w1=(v.put i {v.R i with state:=5}).led (K3 v.s.led 0 1 (v.R i).worth):=⟨_,rfl⟩
 have hR1:w1.R i={a2G U (w.R i)with state:=5}:=by rw[hw1];show(v.put i _).R i=_;rw[E0 (by omega),hRv]
 have I1:Inv D U w1 i n:=by
  refine b9h (gs:=(w.R i).us.map fun _=>4) I (by omega) hi h3 (by rw[l_z,hgl.2]) hgl.2 (fun g hg=> ?_) hnw ?_ ?_ ?_ ?_ ?_
  ·obtain⟨_,_,rfl⟩:=List.mem_map.1 hg;rfl
  ·rw[hw1];show v.s.R.set i {v.R i with state:=5}=_
   rw[hRv,hv2]
   show(w.s.R.set i (a2G U (w.R i))).set i _=_
   rw[List.set_set,hn]
   rfl
  ·rw[hw1,hv2];rfl
  ·rw[hw1,hv2];rfl
  ·intro x hx
   have:x∈w.s.T:=by rw[hw1,hv2]at hx;exact hx
   exact⟨this,hT x this⟩
  ·rw[hw1,hRv]
   show K3 v.s.led 0 1 _=_
   rw[hv2,hn]
   simp[K3,Led.put,Led.get,Wk.put]
 have hw:(w1.R i).worth=n:=by rw[hR1,hn]
 have W1:w1.wf U m:=by rw[hw1];exact(l1.putR (r:={v.R i with state:=5}) (by omega) rfl rfl).led _
 have hl1:w1.s.R.length=w.s.R.length:=by rw[hw1,←l2];exact o7
 have hr:=b2t (m:=m) hD (w:=w1) (i:=i) (by rw[hw];exact I1) W1 (by omega) (by rw[hR1]) (fun h=>by
  rw[hR1]at h⊢
  have h0:0≤(w.R i).res:=h
  have h2:=(I1.res i (by omega)).2
  rw[hR1]at h2
  have:=h2 h0
  simp only[a2G]at this⊢
  have h7:=(I.res i hi).2 h0
  have hK1:w1.s.K=a5z w.s.K (w.R i).us 6:=by rw[hw1,hv2];rfl
  rw[hK1,a0U h0 (by decide)]
  have:i5 w.s.K (w.R i).res=7:=by omega
  rw[if_neg (by rw[this];exact fun h=>absurd h.1 (by decide)),this]) (by
   rw[show w1.s.O=w.s.O by rw[hw1,hv2];rfl]
   exact b9L I (by omega))
 obtain⟨r1,r2,r3,r4⟩:=hr
 have hled:Q5 (v.put i {v.R i with state:=5}) 0 1 (v.R i).worth= .ok w1:=by
  have hnb:0≤(v.R i).worth∧(v.R i).worth≤858993459200:=by
   rw[hRv,←hn,←hw]
   exact I7 hD (I1.ret i (by omega)) (W1.len _ (C5 (by omega)))
  show(a1u v.s.led 0 1 _).map _=_
  rw[show v.s.led=w.s.led by rw[hv2];rfl,a7x hD I (by omega) Wf hnb,hw1,show v.s.led=w.s.led by rw[hv2];rfl]
  rfl
 unfold a3z N2 a7C G5
 rw[hls,←hv,←hw1]
 refine⟨?_,r2,r3,by omega⟩
 rw[show E4 (v.R i).state 5=some 5 by rw[hRv];show E4 (w.R i).state 5=_;rw[h3];rfl]
 simp only
 rw[hled]
 exact r1
theorem a4t{st:Int}(I:Inv D U w 1000 0)(Wf:w.wf U m)(hi:i<w.s.R.length)(h12:(w.R i).state=1∨(w.R i).state=2)(hst:7≤st∧st≤9):
  M1 w (i+1) st= .ok (N4 w i st)∧Inv D U (N4 w i st) 1000 0∧(N4 w i st).wf U m∧(N4 w i st).s.R.length=w.s.R.length∧(∀j,(N4 w i st).R j=if j=i then {w.R i with state:=st,res:= -1}else w.R j):=by
 have hrl:=Wf.rl
 have hat:w.s.at_ (i+1)=some (w.R i):=by
  unfold Sag.at_ Wk.R
  rw[if_pos (by omega),show((i:Int)+1-1).toNat=i by omega,l_s,l_r hi]
  rfl
 have hp:M1 w (i+1) st= .ok (N4 w i st):=by
  unfold M1 N4
  rw[hat]
  simp only
  rw[show E4 (w.R i).state st=some st by unfold E4;grind]
  simp only[show((i:Int)+1-1).toNat=i by omega]
 obtain⟨g1,g2⟩:=a3L hp Wf
 have hrm:=(I.res i hi).1
 have hput:(w.put i {w.R i with state:=st}).R i={w.R i with state:=st}:=E0 hi
 have hrel:j5 (w.put i {w.R i with state:=st}) i={w with s:={w.s with K:=(if 0≤(w.R i).res then E3 w.s.K (w.R i).res 3 else w.s.K),R:=w.s.R.set i {w.R i with state:=st,res:= -1} } }:=by
  unfold j5
  rw[hput]
  simp only
  split
  ·simp only[Wk.put,Wk.mv,List.set_set]
  ·rename_i h
   have:(w.R i).res= -1:=by omega
   simp only[Wk.put]
   congr 3
   have:({w.R i with state:=st}:Ret)={w.R i with state:=st,res:= -1}:=by rw[←this]
   rw[this]
 refine⟨hp,?_,g1,g2,?_⟩
 ·refine c2k (st:=st) I (by omega) hi h12 hst ?_ ?_ ?_ ?_ ?_<;>unfold N4<;>rw[hrel]
  intro x hx
  have:=O6 hx
  exact⟨this.1,this.2⟩
 ·intro j
  have:(N4 w i st).s.R=w.s.R.set i {w.R i with state:=st,res:= -1}:=by unfold N4;rw[hrel]
  exact(a0X this hi).1 j
theorem b4K{num:Int}(hD:Stc D U)(I:Inv D U w 1000 0)(Wf:w.wf U m)(hn:1≤num∧num≤w.s.R.length)(hT:∀x∈w.s.T,x.num≠num):
  a1I D.ss U w num= .ok (P7 D.ss U w num)∧Inv D U (P7 D.ss U w num) 1000 0∧(P7 D.ss U w num).wf U (m+2)∧(P7 D.ss U w num).s.R.length=w.s.R.length:=by
 obtain⟨i,hi⟩:∃i:Nat,num=i+1:=⟨(num-1).toNat,by omega⟩
 have hil:i<w.s.R.length:=by omega
 have hat:w.s.at_ num=some (w.R i):=by
  unfold Sag.at_ Wk.R
  rw[if_pos (by omega),show(num-1).toNat=i by omega,l_s,l_r hil]
  rfl
 unfold a1I P7
 rw[hat,show(num-1).toNat=i by omega]
 simp only
 split
 ·exact b9v hD I Wf hil (by assumption) (by rw[←hi];exact hT)
 ·split
  ·obtain⟨a,b,c,d,_⟩:=a4t (st:=8) I Wf hil (by assumption) (by decide)
   rw[hi]
   exact⟨a,b,c.up (by omega),d⟩
  ·exact⟨rfl,I,Wf.up (by omega),rfl⟩
end
end
end Go.Proofs.YtjagmebglhbdkaaGreat.MX
