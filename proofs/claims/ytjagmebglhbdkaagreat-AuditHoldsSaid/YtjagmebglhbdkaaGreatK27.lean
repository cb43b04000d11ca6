import Derived.Test.YtjagmebglhbdkaaGreatK26
namespace Go.Proofs.YtjagmebglhbdkaaGreat.MX
open Go Go.Proofs
set_option linter.unusedSimpArgs false
set_option linter.unusedVariables false
section
section
variable{D:Cfg}{U:List Unt}{w W:Wk}{e i:Nat}{q s:Int}{r:Ret}{K:List KU}{O:List Msg}
theorem b8J(I:Inv D U w e q)(hi:i<w.s.R.length)(h5:(w.R i).state≠5)(pr:Int):N8 pr (i+1) w.s.O=0:=a4r fun m hm hr=>by
 obtain⟨a1,a2,a3,a4,a5,a6⟩:=I.msg m hm
 have:(m.rma-1).toNat=i:=by omega
 rw[this]at a4 a5
 exact⟨fun h=>h5 (a4 h).1,fun h=>h5 (a5 h).1⟩
theorem b3y(I:Inv D U w e 0)(he:w.s.R.length≤e)(hi:i<w.s.R.length)(h4:(w.R i).state=4)(hg:∀g∈(w.R i).gs,0≤g)
  (hR:W.s.R=w.s.R.set i {w.R i with state:=5}) (hK:W.s.K=w.s.K) (hO:W.s.O=w.s.O) (hT:W.s.T=w.s.T) (hL:W.s.led=⟨w.s.led.a-(w.R i).worth,w.s.led.b+(w.R i).worth,w.s.led.c,w.s.led.d,w.s.led.e⟩):Inv D U W i (w.R i).worth:=by
 obtain⟨hR,hn,hs⟩:=a0X hR hi
 have hd:=b8J I hi (by omega) (prc D.ss (w.R i))
 have hI:=I.ret i hi
 constructor
 case ret=>
  intro j hj
  rw[hR]
  split
  ·subst j
   exact {hI with st:=by simp only;omega,g0:=fun _ h=>absurd rfl h,g4:=fun h=>by simp only at h;omega,g5:=fun _=>hg,nil:=fun h=>absurd rfl h}
  ·exact I.ret j (by omega)
 case msg=>
  intro m hm
  obtain⟨a1,a2,a3,a4,a5,a6⟩:=I.msg m (by grind)
  constructor<;>grind
 case cls=>grind [I.cls]
 case res=>
  intro j hj
  have:=I.res j (by omega)
  grind [a2i]
 case dst=>grind [I.dst]
 case own=>grind [I.own]
 case flg=>grind [I.flg]
 case thr=>
  intro j hj
  have:=I.thr j (by omega)
  grind [there]
 case dsj=>grind [I.dsj]
 case mon=>
  intro j hj
  have h1:=I.mon j (by omega)
  have h2:=hI.nil (by omega) (by omega)
  grind [fin,tol,prc]
 case cl=>
  intro j hj
  have:=I.cl j (by omega)
  grind
 case op=>
  intro j hj
  have:=I.op j (by omega)
  grind
 case tim=>
  intro x hx
  have:=I.tim x (by grind)
  grind
 case led=>
  have h2:=hI.nil (by omega) (by omega)
  obtain⟨a1,a2,a3,a4,a5⟩:=I.led
  unfold tol at h2
  constructor<;>rw[hs,hL]<;>simp[U3,U4,fin,tol,h4]<;>omega
theorem b9h{gs:List Int}{n:Int}(I:Inv D U w e 0)(he:w.s.R.length≤e)(hi:i<w.s.R.length)(h3:(w.R i).state=3)(hgl:gs.length=(w.R i).gs.length)(hul:(w.R i).gs.length=(w.R i).us.length)(hg:∀g∈gs,g=4)(hw:n=J7 D.ps U {w.R i with gs:=gs})
  (hR:W.s.R=w.s.R.set i {w.R i with state:=5,gs:=gs,worth:=n}) (hK:W.s.K=a5z w.s.K (w.R i).us 6) (hO:W.s.O=w.s.O) (hT:∀x∈W.s.T,x∈w.s.T∧x.num≠i+1) (hL:W.s.led=⟨w.s.led.a-n,w.s.led.b+n,w.s.led.c,w.s.led.d,w.s.led.e⟩):Inv D U W i n:=by
 obtain⟨hR,hn,hs⟩:=a0X hR hi
 have hd:=b8J I hi (by omega) (prc D.ss (w.R i))
 have hI:=I.ret i hi
 obtain⟨hkl,hfl⟩:=a3O (U:=U) 6 (us:=(w.R i).us) I.flg
 rw[←hK]at hkl hfl
 have hP:∀m,0≤m→i5 W.s.K m=if J4 (i5 w.s.K m) 6∧m∈(w.R i).us then 6 else i5 w.s.K m:=fun m hm=>by rw[hK];exact a0U hm (by decide)
 have h1:∀u∈(w.R i).us,i5 w.s.K u=1:=fun u hu=>by
  obtain⟨k,hk,rfl⟩:=R7 hu
  have:=(I.thr i hi k hk).2.1 h3
  rwa[l7 hk]at this
 have hP7:∀m,i5 w.s.K m=7∨i5 w.s.K m=8→i5 W.s.K m=i5 w.s.K m:=fun m hm=>by
  rw[hP m (Y5 (K:=w.s.K) (by omega)),if_neg (fun h=>by have:=h1 m h.2;omega)]
 have hP0:∀m,m∉(w.R i).us→i5 W.s.K m=i5 w.s.K m:=fun m hm=>by
  by_cases h0:0≤m
  ·rw[hP m h0,if_neg (fun h=>hm h.2)]
  ·simp[i5,h0]
 have hP6:∀m,i5 W.s.K m=7→i5 w.s.K m=7:=fun m hm=>by
  rw[hP m (Y5 (K:=W.s.K) (by omega))]at hm
  split at hm
  ·omega
  ·exact hm
 constructor
 case ret=>
  intro j hj
  rw[hR]
  split
  ·subst j
   exact {hI with st:=by simp only;omega,g0:=fun _ h=>absurd rfl h,g4:=fun h=>by simp only at h;omega,g5:=fun _ g hm=>by have:=hg g hm;omega,worth:=by simp only;rw[hw];rfl,nil:=fun h=>absurd rfl h}
  ·exact I.ret j (by omega)
 case msg=>
  intro m hm
  obtain⟨a1,a2,a3,a4,a5,a6⟩:=I.msg m (by grind)
  constructor<;>grind
 case cls=>grind [I.cls]
 case res=>
  intro j hj
  have:=I.res j (by omega)
  grind [a2i]
 case dst=>grind [I.dst]
 case own=>
  intro n hn7 h7
  obtain⟨j,hj,h⟩:=I.own n (by omega) (hP6 n h7)
  exact⟨j,by omega,by rw[hR];split<;>simp_all⟩
 case flg=>exact hfl
 case thr=>
  intro j hj k hk
  rw[hR]at hk⊢
  split at hk
  ·rename_i e;rw[if_pos e];exact⟨fun h=>by simp at h,fun h=>by simp at h,fun h=>by simp at h⟩
  ·rename_i e
   rw[if_neg e]
   have h:=I.thr j (by omega) k hk
   by_cases h5:(w.R j).state≤5
   ·rw[hP0 _ (I.dsj j (by omega) i hi e h5 (by omega) _ (by rw[l7 hk];exact l_v hk))];exact h
   ·exact⟨fun h=>by omega,fun h=>by omega,fun h=>by omega⟩
 case dsj=>grind [I.dsj]
 case mon=>
  intro j hj
  have h1:=I.mon j (by omega)
  have h2:=hI.nil (by omega) (by omega)
  grind [fin,tol,prc]
 case cl=>
  intro j hj
  have:=I.cl j (by omega)
  grind
 case op=>
  intro j hj
  have:=I.op j (by omega)
  grind
 case tim=>
  intro x hx
  have:=I.tim x (hT x hx).1
  have:=(hT x hx).2
  grind
 case led=>
  have h2:=hI.nil (by omega) (by omega)
  obtain⟨a1,a2,a3,a4,a5⟩:=I.led
  unfold tol at h2
  constructor<;>rw[hs,hL]<;>simp[U3,U4,fin,tol,h3]<;>omega
end
end
section
section
variable{D:Cfg}{U:List Unt}{w W:Wk}{e i:Nat}{q s:Int}{r:Ret}{K:List KU}{O:List Msg}
theorem b4X{m:Msg}(I:Inv D U w i q)(hi:i<w.s.R.length)(h5:(w.R i).state=5)(hm:m.rma=i+1)
  (hk:m.kind=2∧0<m.value∧s=m.value∨m.kind=3∧m.value=(w.R i).res∧0≤m.value∧i5 w.s.K m.value=7∧(∀x∈w.s.O,x.kind=3→x.rma≠i+1)∧s=prc D.ss (w.R i))
  (hR:W.s.R=w.s.R) (hK:W.s.K=w.s.K) (hO:W.s.O=w.s.O++ [m]) (hT:W.s.T=w.s.T) (hL:W.s.led=w.s.led):Inv D U W i (q-s):=by
 have hx:W.R=w.R:=by unfold Wk.R;rw[hR]
 have hn:W.s.R.length=w.s.R.length:=by rw[hR]
 have hx2:∀j,W.R j=w.R j:=fun j=>by rw[hx]
 have hd:∀pr n,N8 pr n W.s.O=N8 pr n w.s.O+a1H pr n m:=fun pr n=>by rw[hO];exact a7i pr n m
 have hw:∀n,l8 n W.s.O=l8 n w.s.O+if m.rma=n∧m.kind≠1 then 1 else 0:=fun n=>by rw[hO];exact a2b n m
 have hnum:(w.R i).num=i+1:=(I.ret i hi).num
 constructor
 case ret=>rw[hx,hR];exact I.ret
 case msg=>
  intro x hx'
  rw[hO]at hx'
  rcases List.mem_append.1 hx' with h|h
  ·obtain⟨a1,a2,a3,a4,a5,a6⟩:=I.msg x h
   generalize hj:(x.rma-1).toNat=j at*
   constructor<;>(try rw[hj])<;>grind
  ·obtain rfl:=List.mem_singleton.1 h
   have:(x.rma-1).toNat=i:=by omega
   constructor<;>(try rw[this])<;>grind
 case cls=>
  rw[hO,a1o]
  refine⟨I.cls,by simp,fun a ha b hb=> ?_⟩
  obtain rfl:=List.mem_singleton.1 hb
  unfold a1g
  grind
 case res=>
  intro j hj
  have:=I.res j (by omega)
  have:=(I.ret j (by omega)).num
  grind [a2i]
 case dst=>rw[hx,hR];exact I.dst
 case own=>rw[hx,hR,hK];exact I.own
 case flg=>rw[hK];exact I.flg
 case thr=>rw[hx,hR,hK];exact I.thr
 case dsj=>rw[hx,hR];exact I.dsj
 case mon=>
  intro j hj
  have h1:=I.mon j (by omega)
  rw[hx,hd]
  unfold a1H
  grind
 case cl=>
  intro j hj
  have:=I.cl j (by omega)
  grind
 case op=>
  intro j hj
  have:=I.op j (by omega)
  grind
 case tim=>rw[hx,hT,hR];exact I.tim
 case led=>
  obtain⟨a1,a2,a3,a4,a5⟩:=I.led
  constructor<;>rw[hL,hR]<;>assumption
theorem a5X(I:Inv D U w i q)(hi:i<w.s.R.length)(h5:(w.R i).state=5)(hr:0≤(w.R i).res)(h7:i5 w.s.K (w.R i).res=7)(hno:∀x∈w.s.O,x.kind=3→x.rma≠i+1)
  (hR:W.s.R=w.s.R.set i {w.R i with res:= -1}) (hK:W.s.K=E3 w.s.K (w.R i).res 3) (hO:W.s.O=w.s.O) (hT:W.s.T=w.s.T) (hL:W.s.led=w.s.led):Inv D U W i q:=by
 obtain⟨hR,hn,hs⟩:=a0X hR hi
 have hI:=I.ret i hi
 have hfl:=a3a (U:=U) I.flg (w.R i).res 3
 have hkl:W.s.K.length=w.s.K.length:=by rw[hK];exact P4 _ _ _
 rw[←hK]at hfl
 have hP:∀m,0≤m→i5 W.s.K m=if m=(w.R i).res then 3 else i5 w.s.K m:=fun m hm=>by
  rw[hK,a5E hm]
  by_cases h:m=(w.R i).res
  ·subst h;rw[if_pos ⟨by rw[h7];decide,rfl⟩,if_pos rfl]
  ·rw[if_neg (fun x=>h x.2),if_neg h]
 have hN:∀m,¬0≤m→i5 W.s.K m=i5 w.s.K m:=fun m h0=>by simp[i5,h0]
 constructor
 case ret=>
  intro j hj
  rw[hR]
  split
  ·subst j
   exact {hI with num:=hI.num}
  ·exact I.ret j (by omega)
 case msg=>
  intro m hm
  obtain⟨a1,a2,a3,a4,a5,a6⟩:=I.msg m (by grind)
  have hd:=I.dst i hi (m.rma-1).toNat (by omega)
  have h8:=fun h:i5 w.s.K m.value=8=>Y5 (K:=w.s.K) (n:=m.value) (by omega)
  constructor<;>grind
 case cls=>grind [I.cls]
 case res=>
  intro j hj
  have:=I.res j (by omega)
  have:=I.dst i hi j (by omega)
  grind [a2i]
 case dst=>
  intro j hj k hk
  have:=I.dst j (by omega) k (by omega)
  have:=(I.res j (by omega)).1
  grind
 case own=>
  intro n hn' h
  have:=I.own n (by omega)
  grind
 case flg=>exact hfl
 case thr=>
  intro j hj k hk
  rw[hR]at hk⊢
  have h:=I.thr j (by omega) k (by split at hk<;>simp_all)
  by_cases e:j=i
  ·rw[if_pos e]
   exact⟨fun h=>by simp only at h;omega,fun h=>by simp only at h;omega,fun h=>by simp only at h;omega⟩
  ·rw[if_neg e]
   generalize (w.R j).us.getD k 0=u at*
   unfold there at*
   grind
 case dsj=>grind [I.dsj]
 case mon=>
  intro j hj
  have h1:=I.mon j (by omega)
  grind [fin,tol,prc]
 case cl=>
  intro j hj
  have:=I.cl j (by omega)
  grind
 case op=>
  intro j hj
  have:=I.op j (by omega)
  grind
 case tim=>
  intro x hx
  have:=I.tim x (by grind)
  grind
 case led=>
  obtain⟨a1,a2,a3,a4,a5⟩:=I.led
  constructor<;>rw[hs,hL]<;>simp[U3,U4,fin,tol,h5]<;>omega
theorem a0f(I:Inv D U w i 0)(hi:i<w.s.R.length)(h45:(w.R i).state=4∨(w.R i).state=5)(he:w.s.R.length≤e)(h3:0≤(w.R i).res→(w.R i).state=5→i5 w.s.K (w.R i).res=7→∃m∈w.s.O,m.kind=3∧m.rma=i+1):Inv D U (y8 w i) e 0:=by
 have hI:=I.ret i hi
 unfold y8
 split
 ·rename_i hc
  rw[hI.num]at hc
  have hRR:(w.put i {w.R i with state:=6}).s.R=w.s.R.set i {w.R i with state:=6}:=rfl
  obtain⟨hR,hn,hs⟩:=a0X hRR hi
  have hno:∀m∈w.s.O,m.rma=i+1→m.kind=1:=fun m hm hr=>by
   have:=hc.2
   unfold l8 at this
   rw[List.length_eq_zero_iff,List.filter_eq_nil_iff]at this
   have:=this m hm
   simp only[decide_eq_true_eq]at this
   omega
  have hdue:N8 (prc D.ss (w.R i)) (i+1) w.s.O=0:=a4r fun m hm hr=>by have:=hno m hm hr;omega
  constructor
  case ret=>
   intro j hj
   rw[hR]
   split
   ·subst j
    exact {hI with st:=by simp only;omega,g0:=fun _ _ h=>absurd rfl h,g4:=fun h=>by simp only at h;omega,g5:=fun _=>hI.g5 (.inl hc.1),nil:=fun _ h=>absurd rfl h}
   ·exact I.ret j (by omega)
  case msg=>
   intro m hm
   obtain⟨a1,a2,a3,a4,a5,a6⟩:=I.msg m hm
   have:=hno m hm
   show MsgI (w.put i {w.R i with state:=6}) m
   constructor<;>grind [Wk.put]
  case cls=>exact I.cls
  case res=>
   intro j hj
   have:=I.res j (by omega)
   have:(w.put i {w.R i with state:=6}).s.K=w.s.K:=rfl
   have:(w.put i {w.R i with state:=6}).s.O=w.s.O:=rfl
   grind [a2i]
  case dst=>grind [I.dst]
  case own=>
   intro n hn' h
   have:=I.own n hn' h
   grind
  case flg=>exact I.flg
  case thr=>
   intro j hj
   have:=I.thr j (by omega)
   have:(w.put i {w.R i with state:=6}).s.K=w.s.K:=rfl
   grind [there]
  case dsj=>grind [I.dsj]
  case mon=>
   intro j hj
   have h1:=I.mon j (by omega)
   have:(w.put i {w.R i with state:=6}).s.O=w.s.O:=rfl
   grind [fin,tol,prc]
  case cl=>
   intro j hj
   have:=I.cl j (by omega)
   have:(w.put i {w.R i with state:=6}).s.O=w.s.O:=rfl
   grind
  case op=>
   intro j hj
   have:=I.op j (by omega)
   have:(w.put i {w.R i with state:=6}).s.O=w.s.O:=rfl
   grind
  case tim=>
   intro x hx
   have:=I.tim x hx
   grind
  case led=>
   obtain⟨a1,a2,a3,a4,a5⟩:=I.led
   have hm:=I.mon i hi (.inl hc.1)
   constructor<;>rw[hs]<;>simp[Wk.put,U3,U4,fin,tol,hc.1]<;>omega
 ·rename_i hc
  rw[hI.num]at hc
  exact {I with
   res:=fun j hj=>by
    have:=I.res j hj
    have:=(I.ret j hj).num
    grind [a2i]
   mon:=fun j hj hf=>by
    have:=I.mon j hj hf
    rw[this]
    simp
   cl:=fun j hj h6=>⟨(I.cl j hj h6).1,by omega⟩
   op:=fun j hj h5=>by
    have:=I.op j hj h5
    grind}
end
end
section
section
variable{D:Cfg}{U:List Unt}{w W:Wk}{e i:Nat}{q s:Int}{r:Ret}{K:List KU}{O:List Msg}
theorem a1s{n to:Int}(h:J4 (i5 K n) to){m:Int}:i5 (E3 K n to) m=if m=n then to else i5 K m:=by
 by_cases hm:0≤m
 ·rw[a5E hm]
  by_cases e:m=n
  ·subst e;rw[if_pos ⟨h,rfl⟩,if_pos rfl]
  ·rw[if_neg (fun x=>e x.2),if_neg e]
 ·have:m≠n:=fun e=>by
   subst e
   have:=Y5 (K:=K) (n:=m) (by unfold J4 at h;omega)
   omega
  rw[if_neg this]
  simp[i5,hm]
theorem c2k{st:Int}(I:Inv D U w e 0)(he:w.s.R.length≤e)(hi:i<w.s.R.length)(h12:(w.R i).state=1∨(w.R i).state=2)(hst:7≤st∧st≤9)
  (hR:W.s.R=w.s.R.set i {w.R i with state:=st,res:= -1}) (hK:W.s.K=if 0≤(w.R i).res then E3 w.s.K (w.R i).res 3 else w.s.K) (hO:W.s.O=dropL w.s.O (i+1)) (hT:∀x∈W.s.T,x∈w.s.T∧x.num≠i+1) (hL:W.s.led=w.s.led):Inv D U W e 0:=by
 obtain⟨hR,hn,hs⟩:=a0X hR hi
 have hI:=I.ret i hi
 have hr7:0≤(w.R i).res→i5 w.s.K (w.R i).res=7:=fun h=>by
  have:=(I.res i hi).2 h
  omega
 have hP:∀m,i5 W.s.K m=if m=(w.R i).res∧0≤(w.R i).res then 3 else i5 w.s.K m:=fun m=>by
  rw[hK]
  split
  ·rename_i h
   rw[a1s (by rw[hr7 h];decide)]
   simp[h]
  ·rename_i h
   rw[if_neg (fun x=>h x.2)]
 have hkl:W.s.K.length=w.s.K.length:=by rw[hK];split;exact P4 _ _ _;rfl
 have hfl:∀n<W.s.K.length,a2d U n (W.s.K.getD n KU0):=by
  rw[hK]
  split
  ·exact a3a I.flg _ _
  ·exact I.flg
 have hm:∀m,m∈W.s.O→m∈w.s.O∧¬(m.rma=i+1∧m.kind=1):=fun m h=>by
  rw[hO,dropL,List.mem_filter]at h
  exact⟨h.1,fun hx=>by simp[hx.1,hx.2]at h⟩
 have hd:∀pr n,N8 pr n W.s.O=N8 pr n w.s.O∧l8 n W.s.O=l8 n w.s.O:=fun pr n=>by
  rw[hO]
  exact a1J fun m _ hp=>by
   simp at hp
   exact .inl hp.2
 have hmk:∀m∈w.s.O,m.kind≠1→m∈W.s.O:=fun m h hk=>by
  rw[hO,dropL,List.mem_filter]
  simp[h,hk]
 constructor
 case ret=>
  intro j hj
  rw[hR]
  split
  ·subst j
   exact {hI with st:=by simp only;omega,g0:=fun _ _ _=>hI.g0 (by omega) (by omega) (by omega),g4:=fun h=>by simp only at h;omega,g5:=fun h=>by simp only at h;omega,nil:=fun _ _=>hI.nil (by omega) (by omega)}
  ·exact I.ret j (by omega)
 case msg=>
  intro m hm'
  have hm1:=hm m hm'
  obtain⟨a1,a2,a3,a4,a5,a6⟩:=I.msg m hm1.1
  have hd:=I.dst i hi (m.rma-1).toNat (by omega)
  have h8:=fun h:i5 w.s.K m.value=8=>Y5 (K:=w.s.K) (n:=m.value) (by omega)
  have h2:m.kind=1→(m.rma-1).toNat≠i:=fun h=>by omega
  generalize hj:(m.rma-1).toNat=j at*
  constructor<;>(try rw[hj])<;>grind
 case cls=>
  rw[hO]
  exact I.cls.sublist List.filter_sublist
 case res=>
  intro j hj
  have:=I.res j (by omega)
  have:=I.dst i hi j (by omega)
  grind [a2i]
 case dst=>
  intro j hj k hk
  have:=I.dst j (by omega) k (by omega)
  have:=(I.res j (by omega)).1
  grind
 case own=>
  intro n hn' h
  have:=I.own n (by omega)
  grind
 case flg=>exact hfl
 case thr=>
  intro j hj k hk
  rw[hR]at hk⊢
  have h:=I.thr j (by omega) k (by split at hk<;>simp_all)
  by_cases e:j=i
  ·rw[if_pos e]
   exact⟨fun h=>by simp only at h;omega,fun h=>by simp only at h;omega,fun h=>by simp only at h;omega⟩
  ·rw[if_neg e]
   generalize (w.R j).us.getD k 0=u at*
   unfold there at*
   grind
 case dsj=>grind [I.dsj]
 case mon=>
  intro j hj
  have h1:=I.mon j (by omega)
  rw[hR,(hd _ _).1]
  grind [fin,tol,prc]
 case cl=>
  intro j hj
  have:=I.cl j (by omega)
  have:=(hd 0 (j+1)).2
  grind
 case op=>
  intro j hj
  have:=I.op j (by omega)
  have:=(hd 0 (j+1)).2
  grind
 case tim=>
  intro x hx
  have:=I.tim x (hT x hx).1
  have:=(hT x hx).2
  grind
 case led=>
  have h2:=hI.nil (by omega) (by omega)
  obtain⟨a1,a2,a3,a4,a5⟩:=I.led
  unfold tol at h2
  constructor<;>rw[hs,hL]<;>simp[U3,U4,fin,tol,(show(w.R i).state≠5 by omega),(show(w.R i).state≠6 by omega),(show st≠5 by omega),(show st≠6 by omega)]<;>omega
theorem a9h{t:Int}(I:Inv D U w e 0)(he:w.s.R.length≤e)(hi:i<w.s.R.length)(hst:(w.R i).state=t)(ht:t=2∨t=3)
  (hR:W.s.R=w.s.R.set i {w.R i with state:=t+1}) (hK:W.s.K=a5z w.s.K (w.R i).us (t-1)) (hO:W.s.O=w.s.O) (hT:∀x∈W.s.T,x∈w.s.T∧x.num≠i+1∨t=2∧x.num=i+1) (hgl:(w.R i).gs.length=(w.R i).us.length) (hL:W.s.led=w.s.led):Inv D U W e 0:=by
 obtain⟨hR,hn,hs⟩:=a0X hR hi
 have hI:=I.ret i hi
 obtain⟨hkl,hfl⟩:=a3O (U:=U) (t-1) (us:=(w.R i).us) I.flg
 rw[←hK]at hkl hfl
 have hto:¬J4 (t-1) (t-1):=by unfold J4;omega
 have hP:∀m,0≤m→i5 W.s.K m=if J4 (i5 w.s.K m) (t-1)∧m∈(w.R i).us then t-1 else i5 w.s.K m:=fun m hm=>by rw[hK];exact a0U hm hto
 have h1:∀u∈(w.R i).us,i5 w.s.K u=t-2:=fun u hu=>by
  obtain⟨k,hk,rfl⟩:=R7 hu
  have:=I.thr i hi k hk
  rw[l7 hk]at this
  obtain⟨q1,q2,_⟩:=this
  rcases ht with h|h
  ·rw[q1 (by omega)];omega
  ·rw[q2 (by omega)];omega
 have hPu:∀m∈(w.R i).us,i5 W.s.K m=t-1:=fun m hm=>by
  have:=h1 m hm
  rw[hP m (Y5 (K:=w.s.K) (by omega)),if_pos ⟨by rw[this];unfold J4;omega,hm⟩]
 have hP0:∀m,m∉(w.R i).us→i5 W.s.K m=i5 w.s.K m:=fun m hm=>by
  by_cases h0:0≤m
  ·rw[hP m h0,if_neg (fun h=>hm h.2)]
  ·simp[i5,h0]
 have hP7:∀m,i5 w.s.K m=7∨i5 w.s.K m=8→i5 W.s.K m=i5 w.s.K m:=fun m hm=>hP0 m fun h=>by have:=h1 m h;omega
 have hP6:∀m,i5 W.s.K m=7→i5 w.s.K m=7:=fun m hm=>by
  by_cases h:m∈(w.R i).us
  ·have:=hPu m h;omega
  ·rw[←hP0 m h];exact hm
 constructor
 case ret=>
  intro j hj
  rw[hR]
  split
  ·subst j
   have:=hI.g0 (by omega) (by omega) (by omega)
   exact {hI with st:=by simp only;omega,g0:=fun _ _ _=>this,g4:=fun h g hg=>by have:=this g hg;omega,g5:=fun h=>by simp only at h;omega,nil:=fun _ _=>hI.nil (by omega) (by omega)}
  ·exact I.ret j (by omega)
 case msg=>
  intro m hm
  obtain⟨a1,a2,a3,a4,a5,a6⟩:=I.msg m (by grind)
  generalize hj:(m.rma-1).toNat=j at*
  constructor<;>(try rw[hj])<;>grind
 case cls=>grind [I.cls]
 case res=>
  intro j hj
  have:=I.res j (by omega)
  grind [a2i]
 case dst=>grind [I.dst]
 case own=>
  intro n hn7 h7
  obtain⟨j,hj,h⟩:=I.own n (by omega) (hP6 n h7)
  exact⟨j,by omega,by rw[hR];split<;>simp_all⟩
 case flg=>exact hfl
 case thr=>
  intro j hj k hk
  rw[hR]at hk⊢
  split at hk
  ·rename_i e
   rw[if_pos e]
   have hk':k<(w.R i).us.length:=hk
   have h2:=hPu _ (l_v hk')
   have hgk:(w.R i).gs.getD k 0= -1:=by
    have:=hI.g0 (by omega) (by omega) (by omega) _ (l_v (by omega:k<(w.R i).gs.length))
    rwa[l7]
   simp only
   rw[l7 hk',h2,hgk]
   exact⟨fun h=>by omega,fun h=>by omega,fun h=>⟨fun _=>by omega,fun h=>by omega⟩⟩
  ·rename_i e
   rw[if_neg e]
   have h:=I.thr j (by omega) k hk
   by_cases h5:(w.R j).state≤5
   ·rw[hP0 _ (I.dsj j (by omega) i hi e h5 (by omega) _ (by rw[l7 hk];exact l_v hk))];exact h
   ·exact⟨fun h=>by omega,fun h=>by omega,fun h=>by omega⟩
 case dsj=>grind [I.dsj]
 case mon=>
  intro j hj
  have h1:=I.mon j (by omega)
  grind [fin,tol,prc]
 case cl=>
  intro j hj
  have:=I.cl j (by omega)
  grind
 case op=>
  intro j hj
  have:=I.op j (by omega)
  grind
 case tim=>
  intro x hx
  rcases hT x hx with⟨h1,h2⟩|⟨h1,h2⟩
  ·have:=I.tim x h1
   grind
  ·have:(x.num-1).toNat=i:=by omega
   grind
 case led=>
  have h2:=hI.nil (by omega) (by omega)
  obtain⟨a1,a2,a3,a4,a5⟩:=I.led
  unfold tol at h2
  constructor<;>rw[hs,hL]<;>simp[U3,U4,fin,tol,(show(w.R i).state≠5 by omega),(show(w.R i).state≠6 by omega),(show t+1≠5 by omega),(show t+1≠6 by omega)]<;>omega
end
end
section
section
variable{D:Cfg}{U:List Unt}{w W:Wk}{e i j:Nat}{q s:Int}{r:Ret}{K:List KU}{O:List Msg}
theorem a9g{g to n:Int}{k:Nat}{M:List Msg}(I:Inv D U w e 0)(he:w.s.R.length≤e)(hi:i<w.s.R.length)(h4:(w.R i).state=4)(hk:k<(w.R i).us.length)(hgl:(w.R i).gs.length=(w.R i).us.length)(hgk:(w.R i).gs.getD k 0= -1)(hg:0≤g∧g≤3)
  (hto:to=3∨to=4∨to=5∨to=8) (hinj:∀a<(w.R i).us.length,∀b<(w.R i).us.length,(w.R i).us.getD a 0=(w.R i).us.getD b 0→a=b) (hn0:n=J7 D.ps U {w.R i with gs:=(w.R i).gs.set k g})
  (hM:M=[]∨∃m,M=[m]∧to=8∧m.kind=4∧m.rma=i+1∧m.value=(w.R i).us.getD k 0)
  (hR:W.s.R=w.s.R.set i {w.R i with gs:=(w.R i).gs.set k g,worth:=n}) (hK:W.s.K=E3 w.s.K ((w.R i).us.getD k 0) to) (hO:W.s.O=w.s.O++M) (hT:W.s.T=w.s.T) (hL:W.s.led=w.s.led):Inv D U W e 0:=by
 obtain⟨hR,hn,hs⟩:=a0X hR hi
 have hI:=I.ret i hi
 generalize hu:(w.R i).us.getD k 0=u at*
 have hum:u∈(w.R i).us:=by rw[←hu,l7 hk];exact l_v hk
 have h2:i5 w.s.K u=2:=by
  have:=(I.thr i hi k hk).2.2 h4
  rw[hu,hgk]at this
  exact this.1 (by omega)
 have hP:∀m,i5 W.s.K m=if m=u then to else i5 w.s.K m:=fun m=>by
  rw[hK]
  exact a1s (by rw[h2];unfold J4;omega)
 have hfl:=a3a (U:=U) I.flg u to
 rw[←hK]at hfl
 have hkl:W.s.K.length=w.s.K.length:=by rw[hK];exact P4 _ _ _
 have hu0:0≤u:=Y5 (K:=w.s.K) (by omega)
 have hd:∀pr x,N8 pr x W.s.O=N8 pr x w.s.O:=fun pr x=>by
  rw[hO]
  rcases hM with rfl|⟨m,rfl,_,hk,_⟩
  ·rw[D9]
  ·rw[a7i,a1H,if_neg (show ¬m.kind=2 by omega),if_neg (show ¬m.kind=3 by omega)]
   simp
 have hw:∀x,x≠(i:Int)+1→l8 x W.s.O=l8 x w.s.O:=fun x hx=>by
  rw[hO]
  rcases hM with rfl|⟨m,rfl,_,hk,hr,_⟩
  ·rw[D9]
  ·rw[a2b,if_neg (fun h=>hx (by omega))]
   rfl
 constructor
 case ret=>
  intro j hj
  rw[hR]
  split
  ·subst j
   have h3:∀x∈(w.R i).gs.set k g,x≤3:=fun x hx=>by
    rcases List.mem_or_eq_of_mem_set hx with h|h
    ·exact hI.g4 h4 x h
    ·omega
   exact {hI with g0:=fun h=>absurd h4 h,g4:=fun _=>h3,g5:=fun h=>by simp only at h;omega,worth:=by simp only;rw[hn0];rfl}
  ·exact I.ret j (by omega)
 case msg=>
  intro m hm
  rw[hO]at hm
  rcases List.mem_append.1 hm with h|h
  ·obtain⟨a1,a2,a3,a4,a5,a6⟩:=I.msg m h
   generalize hj:(m.rma-1).toNat=j at*
   constructor<;>(try rw[hj])<;>grind
  ·rcases hM with rfl|⟨m',rfl,h8,hk4,hr,hv⟩
   ·cases h
   ·obtain rfl:=List.mem_singleton.1 h
    have hj:(m.rma-1).toNat=i:=by omega
    refine⟨by omega,by omega,by omega,by omega,by omega,fun _=>⟨.inl (by rw[hj,hR,if_pos rfl];exact h4),by rw[hP,if_pos hv];exact h8,fun j hj2=> ?_⟩⟩
    have:=I.res j (by omega)
    have h6:(W.R j).res=(w.R j).res:=by rw[hR];split<;>simp_all
    unfold a2i at this
    rw[h6,hv]
    intro he
    rw[he,h2]at this
    omega
 case cls=>
  rw[hO,a1o]
  refine⟨I.cls,?_,fun a ha b hb=> ?_⟩
  ·rcases hM with rfl|⟨m',rfl,_⟩<;>simp
  ·rcases hM with rfl|⟨m',rfl,h8,hk4,hr,hv⟩
   ·cases hb
   ·obtain rfl:=List.mem_singleton.1 hb
    have:=(I.msg a ha).k4
    unfold a1g
    grind
 case res=>
  intro j hj
  have:=I.res j (by omega)
  have h3:∀x∈W.s.O,x.kind=3→x∈w.s.O:=fun x hx h3=>by
   rw[hO]at hx
   rcases List.mem_append.1 hx with h|h
   ·exact h
   ·rcases hM with rfl|⟨m',rfl,_,hk4,_⟩
    ·cases h
    ·obtain rfl:=List.mem_singleton.1 h;omega
  have h4:∀x∈w.s.O,x∈W.s.O:=fun x hx=>by rw[hO];exact Y0 _ hx
  grind [a2i]
 case dst=>grind [I.dst]
 case own=>
  intro n hn' h
  have:=I.own n (by omega)
  grind
 case flg=>exact hfl
 case thr=>
  intro j hj k' hk'
  rw[hR]at hk'⊢
  split at hk'
  ·rename_i e
   subst e
   rw[if_pos rfl]
   have hk2:k'<(w.R j).us.length:=hk'
   have h:=I.thr j (by omega) k' hk2
   simp only
   by_cases e2:k'=k
   ·subst e2
    rw[hu,hP,if_pos rfl,l_s,List.getElem?_set_self (by omega)]
    exact⟨fun h=>by omega,fun h=>by omega,fun _=>⟨fun h=>by simp at h;omega,fun _=>by omega⟩⟩
   ·have hne:(w.R j).us.getD k' 0≠u:=fun e3=>e2 (hinj k' hk2 k hk (by rw[e3,hu]))
    rw[hP,if_neg hne,l_s (l:=(w.R j).gs.set k g),List.getElem?_set_ne (by omega),←l_s]
    exact h
  ·rename_i e
   rw[if_neg e]
   have h:=I.thr j (by omega) k' hk'
   by_cases h5:(w.R j).state≤5
   ·have hin:(w.R j).us.getD k' 0∈(w.R j).us:=by rw[l7 hk'];exact l_v hk'
    have:=I.dsj j (by omega) i hi e h5 (by omega) _ hin
    rw[hP,if_neg (fun e=>this (by rw[e];exact hum))];exact h
   ·exact⟨fun h=>by omega,fun h=>by omega,fun h=>by omega⟩
 case dsj=>grind [I.dsj]
 case mon=>
  intro j hj
  have h1:=I.mon j (by omega)
  rw[hd]
  grind [fin,tol,prc]
 case cl=>
  intro j hj
  have:=I.cl j (by omega)
  have:=hw (j+1)
  grind
 case op=>
  intro j hj
  have:=I.op j (by omega)
  have:=hw (j+1)
  grind
 case tim=>
  intro x hx
  have:=I.tim x (by grind)
  grind
 case led=>
  obtain⟨a1,a2,a3,a4,a5⟩:=I.led
  constructor<;>rw[hs,hL]<;>simp[U3,U4,fin,tol,h4]<;>omega
structure b7O(O O':List Msg)(m:Msg):Prop where
 mem:m∈O
 sub:O'.Sublist O
 old:∀x∈O,x=m∨x∈O'
 due:∀pr n,N8 pr n O=N8 pr n O'+a1H pr n m
 wts:∀n,l8 n O=l8 n O'+if m.rma=n∧m.kind≠1 then 1 else 0
 no:O.Pairwise (fun a b=>¬a1g a b)→∀x∈O',¬a1g x m
theorem b6w{a b:Msg}(h:a1g a b):a1g b a:=by unfold a1g at*;grind
theorem b5a:∀{O:List Msg}{j:Nat} (hj:j<O.length),b7O O (O.take j++O.drop (j+1)) O[j]
 | [],j,hj=>absurd hj (by simp)
 |x::O,0,_=>⟨by simp,by simp,fun y hy=>by simpa using hy,fun pr n=>by simp[N8];omega,fun n=>by
   have:=a2b (O:=[]) n x
   unfold l8 at this⊢
   simp only[List.filter_cons,List.getElem_cons_zero,a2j,l_k,List.drop_succ_cons,a4D]at*
   split<;>simp_all,fun h y hy hc=>(List.pairwise_cons.1 h).1 y (by simpa using hy) (b6w hc)⟩
 |x::O,j+1,hj=>by
  have h:=b5a (O:=O) (j:=j) (by simpa using hj)
  obtain⟨a,b,c,d,e,f⟩:=h
  simp only[a7v,List.drop_succ_cons,List.getElem_cons_succ,l_j]
  refine⟨by simp,b.cons_cons _,fun y hy=> ?_,fun pr n=> ?_,fun n=> ?_,fun h y hy hc=> ?_⟩
  ·grind
  ·have:=d pr n
   simp only[N8,G7,K1]at this⊢
   omega
  ·have:=e n
   unfold l8 at this⊢
   simp only[List.filter_cons]
   split<;>simp_all<;>omega
  ·rw[List.pairwise_cons]at h
   rcases List.mem_cons.1 hy with rfl|hy
   ·exact h.1 _ (l_v _) hc
   ·exact f h.2 y hy hc
theorem b6S{m:Msg}(I:Inv D U w e 0)(he:w.s.R.length≤e)(hi:i<w.s.R.length)(hm:b7O w.s.O W.s.O m)(hk:m.kind=1)(hr:m.rma=i+1)
  (hR:W.s.R=w.s.R.set i {w.R i with state:=2}) (hK:W.s.K=w.s.K) (hT:W.s.T=w.s.T) (hL:W.s.led=w.s.led):Inv D U W e 0:=by
 obtain⟨hR,hn,hs⟩:=a0X hR hi
 have hI:=I.ret i hi
 have hx:(m.rma-1).toNat=i:=by omega
 have h1:(w.R i).state=1:=by have:=(I.msg m hm.mem).k1 hk;rwa[hx]at this
 have hd:∀pr n,N8 pr n W.s.O=N8 pr n w.s.O:=fun pr n=>by
  rw[hm.due pr n,a1H,if_neg (show ¬m.kind=2 by omega),if_neg (show ¬m.kind=3 by omega)];simp
 have hw:∀n,l8 n W.s.O=l8 n w.s.O:=fun n=>by rw[hm.wts n,if_neg (fun h=>h.2 hk)];rfl
 have hno:∀x∈W.s.O,x.kind=1→x.rma≠i+1:=fun x hx hk1 hr1=>hm.no I.cls x hx (by unfold a1g;omega)
 constructor
 case ret=>
  intro j hj
  rw[hR]
  split
  ·subst j
   exact {hI with st:=by simp only;omega,g0:=fun _ _ _=>hI.g0 (by omega) (by omega) (by omega),g4:=fun h=>by simp only at h;omega,g5:=fun h=>by simp only at h;omega,nil:=fun _ _=>hI.nil (by omega) (by omega)}
  ·exact I.ret j (by omega)
 case msg=>
  intro x hx'
  obtain⟨a1,a2,a3,a4,a5,a6⟩:=I.msg x (hm.sub.subset hx')
  have:=hno x hx'
  have:x.kind=1→(x.rma-1).toNat≠i:=fun h=>by have:=this h;omega
  generalize hj:(x.rma-1).toNat=j at*
  constructor<;>(try rw[hj])<;>grind
 case cls=>exact I.cls.sublist hm.sub
 case res=>
  intro j hj
  have:=I.res j (by omega)
  have h3:∀x∈w.s.O,x.kind=3→x∈W.s.O:=fun x hx h3=>(hm.old x hx).resolve_left fun e=>by subst e;omega
  have h4:∀x∈W.s.O,x∈w.s.O:=fun x hx=>hm.sub.subset hx
  grind [a2i]
 case dst=>grind [I.dst]
 case own=>grind [I.own]
 case flg=>grind [I.flg]
 case thr=>
  intro j hj
  have:=I.thr j (by omega)
  grind [there]
 case dsj=>grind [I.dsj]
 case mon=>
  intro j hj
  have h1:=I.mon j (by omega)
  rw[hd]
  grind [fin,tol,prc]
 case cl=>
  intro j hj
  have:=I.cl j (by omega)
  have:=hw (j+1)
  grind
 case op=>
  intro j hj
  have:=I.op j (by omega)
  have:=hw (j+1)
  grind
 case tim=>
  intro x hx
  have:=I.tim x (by grind)
  grind
 case led=>
  have h2:=hI.nil (by omega) (by omega)
  obtain⟨a1,a2,a3,a4,a5⟩:=I.led
  unfold tol at h2
  constructor<;>rw[hs,hL]<;>simp[U3,U4,fin,tol,h1]<;>omega
theorem a3e{m:Msg}(I:Inv D U w e 0)(he:w.s.R.length≤e)(hi:i<w.s.R.length)(hm:b7O w.s.O W.s.O m)(hr:m.rma=i+1)(hR:W.s.R=w.s.R)(hT:W.s.T=w.s.T)(hL:W.s.led=w.s.led)
  (hk:m.kind=1∧W.s.K=w.s.K∧q=0∨m.kind=2∧W.s.K=w.s.K∧q=m.value∨m.kind=3∧W.s.K=w.s.K∧q=prc D.ss (w.R i)∨m.kind=4∧q=0∧∃to,(to=0∨to=6)∧W.s.K=E3 w.s.K m.value to):Inv D U W i q:=by
 have hx2:∀j,W.R j=w.R j:=fun j=>by unfold Wk.R;rw[hR]
 have hn:W.s.R.length=w.s.R.length:=by rw[hR]
 have hx:(m.rma-1).toNat=i:=by omega
 have hIm:=I.msg m hm.mem
 have hP:∃to,(m.kind=4→to=0∨to=6)∧∀n,i5 W.s.K n=if n=m.value∧m.kind=4 then to else i5 w.s.K n:=by
  rcases hk with⟨h,hk,_⟩|⟨h,hk,_⟩|⟨h,hk,_⟩|⟨h,_,to,h0,hk⟩
  ·exact⟨0,fun h=>by omega,fun n=>by rw[if_neg (fun h=>by omega),hk]⟩
  ·exact⟨0,fun h=>by omega,fun n=>by rw[if_neg (fun h=>by omega),hk]⟩
  ·exact⟨0,fun h=>by omega,fun n=>by rw[if_neg (fun h=>by omega),hk]⟩
  ·refine⟨to,fun _=>h0,fun n=> ?_⟩
   have:=(hIm.k4 h).2.1
   rw[hk,a1s (by rw[this];unfold J4;omega)]
   simp[h]
 obtain⟨to,hto,hP⟩:=hP
 have hfl:W.s.K.length=w.s.K.length∧∀n<W.s.K.length,a2d U n (W.s.K.getD n KU0):=by
  rcases hk with⟨h,hk,_⟩|⟨h,hk,_⟩|⟨h,hk,_⟩|⟨h,_,to,h0,hk⟩
  ·rw[hk];exact⟨rfl,I.flg⟩
  ·rw[hk];exact⟨rfl,I.flg⟩
  ·rw[hk];exact⟨rfl,I.flg⟩
  ·rw[hk];exact⟨P4 _ _ _,a3a I.flg _ _⟩
 have hno:=hm.no I.cls
 constructor
 case ret=>intro j hj;rw[hx2];exact I.ret j (by omega)
 case msg=>
  intro x hx'
  have hc:=hno x hx'
  obtain⟨a1,a2,a3,a4,a5,a6⟩:=I.msg x (hm.sub.subset hx')
  obtain⟨b1,b2,b3,b4,b5,b6⟩:=hIm
  unfold a1g at hc
  generalize hj:(x.rma-1).toNat=j at*
  constructor<;>(try rw[hj])<;>grind
 case cls=>exact I.cls.sublist hm.sub
 case res=>
  intro j hj
  have:=I.res j (by omega)
  have h3:∀x∈w.s.O,x.kind=3→j≠i→x.rma=(w.R j).num→x∈W.s.O:=fun x hx h3 hne hnum=>(hm.old x hx).resolve_left fun e=>by
   subst e
   have:=(I.ret j (by omega)).num
   omega
  have h4:∀x∈W.s.O,x∈w.s.O:=fun x hx=>hm.sub.subset hx
  have h5:=hIm.k4
  grind [a2i]
 case dst=>grind [I.dst]
 case own=>
  intro n hn' h
  have:=I.own n (by omega)
  grind
 case flg=>exact hfl.2
 case thr=>
  intro j hj k hk'
  rw[hx2]at hk'⊢
  have h:=I.thr j (by omega) k hk'
  have h5:=hIm.k4
  generalize (w.R j).us.getD k 0=u at*
  unfold there at*
  grind
 case dsj=>grind [I.dsj]
 case mon=>
  intro j hj
  have h1:=I.mon j (by omega)
  have h2:=hm.due (prc D.ss (w.R j)) (j+1)
  rw[hx2]
  unfold a1H at h2
  grind
 case cl=>
  intro j hj h6
  rw[hx2]at h6
  have h1:=I.cl j (by omega) h6
  have h2:=hm.wts (j+1)
  obtain⟨b1,b2,b3,b4,b5,b6⟩:=hIm
  grind
 case op=>
  intro j hj
  have:=I.op j (by omega)
  have h2:=hm.wts (j+1)
  grind
 case tim=>
  intro x hx
  have:=I.tim x (by grind)
  grind
 case led=>
  obtain⟨a1,a2,a3,a4,a5⟩:=I.led
  constructor<;>rw[hL,hR]<;>assumption
end
end
end Go.Proofs.YtjagmebglhbdkaaGreat.MX
