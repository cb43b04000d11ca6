import Derived.Test.YtjagmebglhbdkaaGreatK06
namespace Go.Proofs.YtjagmebglhbdkaaGreat.MX
open Go Go.Proofs
set_option linter.unusedSimpArgs false
set_option linter.unusedVariables false
section
section
variable{P:Program}{Q:D6→Env→c9→Prop}{ρ:Env}{h:c9}{K:Value→c9→Prop}{C:Env→c9→Prop}{S:c9→Prop}{ops:List j1}
def j8(S:c9→Prop)(F:c9→Option Value)(K:Value→Prop)(_:Tag K):Prop:=∃v,(∀h',S h'→F h'=some v)∧K v
theorem c2L{h0:c9}{M:List Nat}{b off:Nat}{K:Value→Prop}{t:Tag K}(hb:b<h0.size)(hm:b∉M):
  j8 (fun h'=>Fr h0 h' M) (fun h'=>rd1 h' (.pointer (some ⟨b,off,none⟩))) K t=D7 (rd1 h0 (.pointer (some ⟨b,off,none⟩))) K ⟨⟩:=by
 apply propext
 simp only[j8,D7]
 constructor
 ·rintro⟨v,hv,hk⟩
  rw[hv h0 (Fr.refl _ _)]
  exact hk
 ·intro hk
  obtain⟨v,hv,hk⟩:=H6 hk
  exact⟨v,fun h' hf=>by rw[hf.rd1 hb hm];exact hv,hk⟩
theorem b5v{h0:c9}{M:List Nat}{b off n:Nat}{K:Value→Prop}{t:Tag K}(hb:b<h0.size)(hm:b∉M):
  j8 (fun h'=>Fr h0 h' M) (fun h'=>i7 (rdN h' b off n) fun cs=>some (.agg cs.toArray)) K t=D7 (i7 (rdN h0 b off n) fun cs=>some (.agg cs.toArray)) K ⟨⟩:=by
 apply propext
 simp only[j8,D7]
 constructor
 ·rintro⟨v,hv,hk⟩
  rw[hv h0 (Fr.refl _ _)]
  exact hk
 ·intro hk
  obtain⟨v,hv,hk⟩:=H6 hk
  exact⟨v,fun h' hf=>by rw[hf.rdN hb hm];exact hv,hk⟩
def b1q(A B:Prop):Prop:=A∧B
theorem c1N{a b:c9}{M:List Nat}{B:Prop}(x:Fr a b M):b1q (Fr a b M) B=B:=by simp[b1q,x]
theorem c3N{B:Prop}:b1q True B=B:=by simp[b1q]
def T4(P:Program)(S:c9→Prop)(ops:List j1)(C:Env→c9→Prop)(s:Sch)(ρ:Env)(h:c9):Prop:=I5 P S ops C s ρ h
def a6f(P:Program)(S:c9→Prop)(ops:List j1)(C:Env→c9→Prop)(k:Sch)(ρ:Env)(h:c9)(o:Option j1):Prop:=
 match o with
 |some o=>M6 (P5 ρ o.guard)
    (match o.op with
     | .p x=>N7 (x.val ρ) fun v=>I5 P S ops C k (N5 ρ o.dst v) h
     | .r x=>∃v,(∀h',S h'→x.val ρ h'=some v)∧I5 P S ops C k (N5 ρ o.dst v) h
     | .e _=>False)
    (I5 P S ops C k (N5 ρ o.dst undef) h)
 |none=>False
def a8p(P:Program)(S:c9→Prop)(ops:List j1)(C:Env→c9→Prop)(ns:Bool)(k:Sch)(ρ:Env)(h:c9)(o:Option j1):Prop:=
 match o with
  |some o=>M6 (P5 ρ o.guard) (o.op.wp P ρ h fun v h'=>(ns=true→S h')∧I5 P S ops C k (N5 ρ o.dst v) h') (I5 P S ops C k (N5 ρ o.dst undef) h)
  |none=>False
theorem c0v:T4 P S ops C .done ρ h=C ρ h:=(_root_.id rfl)
theorem c4A:T4 P S ops C .no ρ h=True:=(_root_.id rfl)
theorem c0w{i:Nat}{k:Sch}:T4 P S ops C (.take i k) ρ h=a6f P S ops C k ρ h ops[i]? :=by
 simp only[T4,I5,a6f]
 rfl
theorem c2S{i:Nat}{ns:Bool}{k more:Sch}:T4 P S ops C (.alt i ns k more) ρ h=(a8p P S ops C ns k ρ h ops[i]?∧T4 P S ops C more ρ h):=by
 simp only[T4,I5,a8p]
 rfl
theorem c4H{k:Sch}{d:Option Nat}{x:j7}:a6f P S ops C k ρ h (some ⟨d,.p x,none⟩)=D7 (x.val ρ) (fun v=>T4 P S ops C k (N5 ρ d v) h) ⟨⟩:=by
 simp[a6f,M6,P5,D7,T4]
theorem c4I{k:Sch}{d:Option Nat}{x:a2o}:a6f P S ops C k ρ h (some ⟨d,.r x,none⟩)=j8 S (fun h'=>x.val ρ h') (fun v=>T4 P S ops C k (N5 ρ d v) h) ⟨⟩:=by
 simp[a6f,M6,P5,j8,T4]
theorem c2X{k:Sch}{d:Option Nat}{x:j7}{g:Nat×Bool}:a6f P S ops C k ρ h (some ⟨d,.p x,some g⟩)=
  a0N (P5 ρ (some g)) (D7 (x.val ρ) (fun v=>T4 P S ops C k (N5 ρ d v) h) ⟨⟩) (T4 P S ops C k (N5 ρ d undef) h) ⟨⟩ ⟨⟩:=(_root_.id rfl)
theorem c2Y{k:Sch}{d:Option Nat}{x:a2o}{g:Nat×Bool}:a6f P S ops C k ρ h (some ⟨d,.r x,some g⟩)=
  a0N (P5 ρ (some g)) (j8 S (fun h'=>x.val ρ h') (fun v=>T4 P S ops C k (N5 ρ d v) h) ⟨⟩) (T4 P S ops C k (N5 ρ d undef) h) ⟨⟩ ⟨⟩:=(_root_.id rfl)
theorem c4T{k:Sch}{d:Option Nat}{x:MOp}:a8p P S ops C true k ρ h (some ⟨d,x,none⟩)=x.wp P ρ h fun v h'=>b1q (S h') (T4 P S ops C k (N5 ρ d v) h'):=by
 simp[a8p,M6,P5,T4,b1q]
theorem c4S{k:Sch}{d:Option Nat}{x:MOp}:a8p P S ops C false k ρ h (some ⟨d,x,none⟩)=x.wp P ρ h fun v h'=>T4 P S ops C k (N5 ρ d v) h':=by
 simp[a8p,M6,P5,T4]
theorem c3K{k:Sch}{d:Option Nat}{x:MOp}{g:Nat×Bool}:a8p P S ops C true k ρ h (some ⟨d,x,some g⟩)=a0N (P5 ρ (some g)) (x.wp P ρ h fun v h'=>b1q (S h') (T4 P S ops C k (N5 ρ d v) h')) (T4 P S ops C k (N5 ρ d undef) h) ⟨⟩ ⟨⟩:=by
 simp[a8p,a0N,T4,b1q]
theorem c3J{k:Sch}{d:Option Nat}{x:MOp}{g:Nat×Bool}:a8p P S ops C false k ρ h (some ⟨d,x,some g⟩)=a0N (P5 ρ (some g)) (x.wp P ρ h fun v h'=>T4 P S ops C k (N5 ρ d v) h') (T4 P S ops C k (N5 ρ d undef) h) ⟨⟩ ⟨⟩:=by
 simp[a8p,a0N,T4]
theorem a1G{l:List j1}{s:Sch}{t1:Tag l}{t2:Tag s}{t3:Tag Q}{t4:Tag ρ}{t5:Tag h}(M:List Nat)(hw:T4 P (fun h'=>Fr h h' M) l (Q .normal) s ρ h):a8V P l s Q ρ h t1 t2 t3 t4 t5:=
 ⟨_,Fr.refl _ _,hw⟩
end
attribute [go_sem ↓] c0v c4A c0w c2S c4H c4I c2X c2Y c4T c4S c3K c3J
attribute [go_sem] c1N c3N c2L b5v
def i9:Value→List Nat
 | .slice (some a) _ _=> [a.block]
 |_=> []
def Own{α:Type}(enc:α→List Value)(sz T base:Nat)(h:c9)(v:Value)(xs:List α):Prop:=
 (v= .slice none 0 0∧xs=[])∨
 ∃b cap cs,v= .slice (some ⟨b,0,none⟩) xs.length cap∧base≤b∧xs.length≤cap∧cap<9223372036854775808∧blk h b=some (xs.flatMap enc++cs,T,(0,0))∧(xs.flatMap enc++cs).length=cap*sz
section
variable{α:Type}{enc:α→List Value}{sz T base:Nat}{h h':c9}{v:Value}{xs:List α}
theorem Own.nil:Own enc sz T base h (.slice none 0 0) ([]:List α):= .inl ⟨rfl,rfl⟩
theorem fL(hsz:∀x,(enc x).length=sz):∀xs:List α,(xs.flatMap enc).length=xs.length*sz
 | []=>by simp
 |x::xs=>by simp[fL hsz xs,hsz,Nat.succ_mul];omega
theorem a4x(hsz:∀x,(enc x).length=sz):∀(xs:List α) (cs:List Value) (i:Nat) (hi:i<xs.length),((xs.flatMap enc++cs).drop (i*sz)).take sz=enc xs[i]
 |x::xs,cs,0,_=>by
  simp only[Nat.zero_mul,a4D,X9,l_q,List.getElem_cons_zero]
  rw[List.take_append_of_le_length (by rw[hsz];exact x9 _),a2E (by rw[hsz];exact x9 _)]
 |x::xs,cs,i+1,hi=>by
  have ih:=a4x hsz xs cs i (by simpa using hi)
  simp only[X9,l_q,List.getElem_cons_succ]
  rw[Nat.succ_mul,Nat.add_comm,←List.drop_drop]
  rw[show(enc x++(xs.flatMap enc++cs)).drop sz=xs.flatMap enc++cs by rw[←hsz x,List.drop_left]]
  exact ih
theorem Own.len(ho:Own enc sz T base h v xs):b0o false v=some (.int .i64 xs.length):=by
 rcases ho with⟨rfl,rfl⟩|⟨b,cap,cs,rfl,_⟩<;>rfl
theorem Own.slice(ho:Own enc sz T base h v xs):∃A c,v= .slice A xs.length c:=by
 rcases ho with⟨rfl,rfl⟩|⟨b,cap,cs,rfl,_⟩
 ·exact⟨none,0,rfl⟩
 ·exact⟨_,_,rfl⟩
theorem Own.arr(hsz:∀x,(enc x).length=sz){A:Option Addr}{n c:Nat}(ho:Own enc sz T base h (.slice A n c) xs):Arr enc sz h A xs∧n=xs.length∧n≤c:=by
 rcases ho with⟨hv,rfl⟩|⟨b,cap,cs,hv,hb,hle,h63,hblk,hl⟩
 ·injection hv with e1 e2 e3
  subst e1 e2 e3
  exact⟨Arr.nil _ _ _ _,rfl,x9 _⟩
 ·injection hv with e1 e2 e3
  subst e1 e2 e3
  refine⟨fun i hi=>⟨b,0,rfl,?_⟩,rfl,hle⟩
  rw[Nat.zero_add,v8 hblk,a4x hsz xs cs i hi]
  rw[hl]
  have:(i+1)*sz≤c*sz:=a1n _ (by omega)
  rw[Nat.succ_mul]at this
  exact this
theorem Own.lt(ho:Own enc sz T base h v xs):∀b∈i9 v,b<h.size∧base≤b:=by
 rcases ho with⟨rfl,rfl⟩|⟨b,cap,cs,rfl,hb,hle,h63,hblk,hl⟩
 ·intro b hb;cases hb
 ·intro b' hb'
  simp only[i9,U1]at hb'
  subst hb'
  exact⟨F5 hblk,hb⟩
theorem Own.keep(ho:Own enc sz T base h v xs)(hk:∀b∈i9 v,blk h' b=blk h b):Own enc sz T base h' v xs:=by
 rcases ho with⟨rfl,rfl⟩|⟨b,cap,cs,rfl,hb,hle,h63,hblk,hl⟩
 ·exact .inl ⟨rfl,rfl⟩
 ·exact .inr ⟨b,cap,cs,rfl,hb,hle,h63,by rw[hk b (by simp[i9]),hblk],hl⟩
theorem Own.rebase(ho:Own enc sz T base h v xs){base':Nat}(hb':∀b∈i9 v,base'≤b):Own enc sz T base' h v xs:=by
 rcases ho with⟨rfl,rfl⟩|⟨b,cap,cs,rfl,hb,hle,h63,hblk,hl⟩
 ·exact .inl ⟨rfl,rfl⟩
 ·exact .inr ⟨b,cap,cs,rfl,hb' b (by simp[i9]),hle,h63,hblk,hl⟩
theorem Own.fr{M:List Nat}(ho:Own enc sz T base h v xs)(hf:Fr h h' M)(hm:∀b∈i9 v,b∉M):Own enc sz T base h' v xs:=
 ho.keep fun b hb=>hf.blk (ho.lt b hb).1 (hm b hb)
theorem Own.set{k:Nat}{o:Obj}(ho:Own enc sz T base h v xs)(hk:k∉i9 v):Own enc sz T base (h.setIfInBounds k o) v xs:=
 ho.keep fun b hb=>a1C (fun e=>hk (e▸hb))
theorem Own.push{o:Obj}(ho:Own enc sz T base h v xs):Own enc sz T base (h.push o) v xs:=
 ho.keep fun b hb=>G2 (ho.lt b hb).1
theorem v6(a b c:List Value)(off:Nat)(hoff:off=a.length):∀(vs:List Value),vs.length≤b.length→v5 (a++b) off vs=a++vs++b.drop vs.length:=by
 intro vs
 induction vs generalizing a b off with
 |nil=>intro _;simp[v5]
 |cons v vs ih=>
  intro hle
  subst hoff
  cases b with
  |nil=>simp at hle
  |cons x b=>
   simp only[v5]
   rw[a6l _ _ (x9 _),Nat.sub_self,l_h]
   have:=ih (a++ [v]) b (a.length+1) (by simp) (by simpa using hle)
   simp only[l_q,List.singleton_append]at this
   rw[this]
   simp
theorem T0{n:Nat}{y:Value}{b off m c:Nat}{cs:List Value}(hy:y= .slice (some ⟨b,off,none⟩) m c)(hr:rdN h b off (n*sz)=some cs):x7 h sz n y=some cs:=by
 subst hy
 simp only[x7]
 split
 ·rename_i h0
  rw[h0]at hr
  have:=(a7U (w:={(default:World)with heap:=h}) hr).1
  rw[a7w this]
 ·exact hr
theorem Arr.lt{A:Option Addr}(ha:Arr enc sz h A xs){b off:Nat}(hA:A=some ⟨b,off,none⟩)(hne:xs≠[]):b<h.size:=by
 obtain⟨b',off',hA',hr⟩:=ha 0 (List.length_pos_iff.2 hne)
 rw[hA]at hA'
 cases hA'
 exact c0f hr
theorem Arr.fr{A:Option Addr}{M:List Nat}(ha:Arr enc sz h A xs)(hf:Fr h h' M)(hm:∀b off,A=some ⟨b,off,none⟩→b∉M):Arr enc sz h' A xs:=
 ha.keep fun b off hA hne=>hf.blk (ha.lt hA hne) (hm b off hA)
theorem Arr.at{A:Option Addr}(ha:Arr enc sz h A xs){i:Nat}(hi:i<xs.length):∃b off,A=some ⟨b,off,none⟩∧rdN h b (off+i*sz) sz=some (enc xs[i]):=ha i hi
theorem Arr.all(hsz:∀x,(enc x).length=sz){A:Option Addr}(ha:Arr enc sz h A xs)(hne:xs≠[]):∃b off,A=some ⟨b,off,none⟩∧rdN h b off (xs.length*sz)=some (xs.flatMap enc):=by
 obtain⟨b,off,hA,hr⟩:=ha 0 (List.length_pos_iff.2 hne)
 refine⟨b,off,hA,?_⟩
 have hb:=c0f hr
 obtain⟨⟨c,e,f⟩,hblk⟩:∃x,blk h b=some x:=by
  unfold rdN at hr
  split at hr
  ·rename_i x;exact⟨_,x⟩
  ·cases hr
 have hall:∀k (hk:k<xs.length),off+k*sz+sz≤c.length∧(c.drop (off+k*sz)).take sz=enc xs[k]:=by
  intro k hk
  obtain⟨b',off',hA',hr'⟩:=ha k hk
  rw[hA]at hA'
  cases hA'
  unfold rdN at hr'
  rw[hblk]at hr'
  simp only at hr'
  split at hr'
  ·rename_i hl;exact⟨hl,Option.some.inj hr'⟩
  ·cases hr'
 have key:∀(ys:List α) (k:Nat),xs.drop k=ys→(c.drop (off+k*sz)).take (ys.length*sz)=ys.flatMap enc:=by
  intro ys
  induction ys with
  |nil=>intro k _;simp
  |cons y ys ih=>
   intro k hk
   have hlt:k<xs.length:=by
    rcases Nat.lt_or_ge k xs.length with h1|h1
    ·exact h1
    ·rw[List.drop_eq_nil_of_le h1]at hk;cases hk
   rw[X8 hlt]at hk
   injection hk with h1 h2
   have h3:=ih (k+1) h2
   have h4:=hall k hlt
   rw[l_f,Nat.succ_mul,Nat.add_comm (ys.length*sz),List.take_add,X9,h4.2,h1,List.drop_drop]
   rw[show off+k*sz+sz=off+(k+1)*sz by rw[Nat.succ_mul];omega,h3]
 have hlast:=hall (xs.length-1) (by have:=List.length_pos_iff.2 hne;omega)
 have hle:off+xs.length*sz≤c.length:=by
  have hpos:=List.length_pos_iff.2 hne
  have e:xs.length=(xs.length-1)+1:=by omega
  rw[e,Nat.succ_mul]
  omega
 rw[v8 hblk hle]
 have:=key xs 0 (by simp)
 rw[Nat.zero_mul,H8]at this
 rw[this]
theorem E9(hsz:∀x,(enc x).length=sz){A:Option Addr}{n c:Nat}(ha:Arr enc sz h A xs)(hn:n=xs.length):x7 h sz xs.length (.slice A n c)=some (xs.flatMap enc):=by
 by_cases hne:xs=[]
 ·subst hne
  cases A<;>simp[x7]
 ·obtain⟨b,off,rfl,hr⟩:=ha.all hsz hne
  exact T0 rfl hr
theorem a1B(hsz:∀x,(enc x).length=sz)(h0:0<sz)(hpl:∀x,pC (enc x)=true){bytes:Nat}{z:List Value}(hz:z.length=sz){y:Value}{ys:List α}{K:Value→c9→Prop}{s:Tag h}{t:Tag K}
  (ho:Own enc sz T base h v xs) (hbase:base≤h.size) (hm:W8 y=some ys.length) (hc:x7 h sz ys.length y=some (ys.flatMap enc)) (hroom:(xs.length+ys.length)*bytes≤140737488355328) (h63:xs.length+ys.length≤9223372036854775807)
  (hk:∀v' h',Own enc sz T base h' v' (xs++ys)→Fr h h' (i9 v)→(∀b∈i9 v',b∈i9 v∨h.size≤b)→K v' h'):a6V T sz bytes z v y h K s t:=by
 have hplf:∀l:List α,pC (l.flatMap enc)=true:=by
  intro l
  induction l with
  |nil=>rfl
  |cons x l ih=>
   have:∀a b:List Value,pC a=true→pC b=true→pC (a++b)=true:=by
    intro a b ha hb
    induction a with
    |nil=>exact hb
    |cons c a iha=>simp only[pC,a1P,l_j]at ha⊢;exact⟨ha.1,iha ha.2⟩
   rw[X9]
   exact this _ _ (hpl x) ih
 have hzl:∀n,(n8 z n).length=n*sz:=fun n=>by
  induction n with
  |zero=>simp[n8]
  |succ n ih=>simp[n8,ih,hz,Nat.succ_mul];omega
 simp only[a6V]
 rcases ho with⟨rfl,rfl⟩|⟨b,cap,cs,rfl,hb,hle,h63',hblk,hl⟩
 ·simp only[a9Y,N7,hm,hc]
  by_cases hys:ys=[]
  ·subst hys
   simp only[l_g,H8,x9,if_true]
   exact hk _ _ (by simpa using Own.nil) (Fr.refl _ _) (fun b hb=>by cases hb)
  ·have hpos:0<ys.length:=List.length_pos_iff.2 hys
   rw[if_neg (by omega)]
   simp only[x7]
   refine⟨by simpa using hroom,by simpa using h63,fun cap hc1 hc2=> ?_⟩
   refine hk _ _ (.inr ⟨h.size,cap,n8 z (cap-ys.length),?_,hbase,?_,hc2,?_,?_⟩) ((Fr.refl _ _).push _) (fun b hb=> .inr ?_)
   ·simp
   ·simp at hc1⊢;exact hc1
   ·simp only[l_k,Nat.zero_add]
    exact C7 rfl
   ·simp only[l_k,l_m,fL hsz,hzl]
    rw[←R8]
    congr 1
    simp at hc1
    omega
   ·simp only[i9,U1]at hb
    omega
 ·simp only[a9Y,N7,hm,hc]
  by_cases hfit:xs.length+ys.length≤cap
  ·rw[if_pos hfit]
   by_cases hys:ys=[]
   ·subst hys
    simp only[List.flatMap_nil,if_true]
    refine hk _ _ (.inr ⟨b,cap,cs,by simp,hb,by simpa using hle,h63',by simpa using hblk,by simpa using hl⟩) (Fr.refl _ _) (fun b' hb'=> .inl hb')
   ·have hne:¬(ys.flatMap enc=[]):=by
     intro h1
     have:=congrArg List.length h1
     rw[fL hsz,l_g]at this
     have hpos:0<ys.length:=List.length_pos_iff.2 hys
     have:=Nat.mul_pos hpos h0
     omega
    rw[if_neg hne]
    simp only[wrW,P9,Nat.zero_add,hblk]
    have hlen:(xs.flatMap enc).length=xs.length*sz:=fL hsz xs
    have hleny:(ys.flatMap enc).length=ys.length*sz:=fL hsz ys
    have hmul:(xs.length+ys.length)*sz≤cap*sz:=a1n _ hfit
    rw[R8]at hmul
    have hcs:ys.length*sz≤cs.length:=by
     rw[l_m,hlen]at hl
     omega
    refine⟨⟨by rw[hl,hleny];exact hmul,.inl (x9 _),hplf ys⟩,?_⟩
    rw[v6 _ _ cs _ hlen.symm _ (by rw[hleny];exact hcs)]
    refine hk _ _ (.inr ⟨b,cap,cs.drop (ys.flatMap enc).length,by simp,hb,by simpa using hfit,h63',?_,?_⟩) ?_ (fun b' hb'=> .inl ?_)
    ·rw[a1p]
     exact L2 (F5 hblk)
    ·rw[a1p,l_m,l_m,hlen,M2,hleny]
     rw[l_m,hlen]at hl
     omega
    ·exact(Fr.refl _ _).set (.inl (by simp[i9])) _
    ·simpa[i9]using hb'
  ·rw[if_neg hfit]
   have hold:x7 h sz xs.length (.slice (some ⟨b,0,none⟩) xs.length cap)=some (xs.flatMap enc):=by
    refine T0 rfl ?_
    have hlen:(xs.flatMap enc).length=xs.length*sz:=fL hsz xs
    rw[v8 hblk (by rw[Nat.zero_add,l_m,hlen];omega),a4D,←hlen,List.take_left]
   rw[hold]
   refine⟨hroom,h63,fun cap' hc1 hc2=> ?_⟩
   refine hk _ _ (.inr ⟨h.size,cap',n8 z (cap'-(xs.length+ys.length)),by simp,hbase,by simpa using hc1,hc2,?_,?_⟩) ((Fr.refl _ _).push _) (fun b hb=> .inr ?_)
   ·rw[a1p]
    exact C7 rfl
   ·rw[a1p,l_m,l_m,fL hsz,fL hsz,hzl,←R8,←R8]
    congr 1
    omega
   ·simp only[i9,U1]at hb
    omega
theorem a4j{bytes:Nat}{z:List Value}{y:Value}{b off n c m e:Nat}{f:Nat×Nat}{cells new:List Value}{K:Value→c9→Prop}{s:Tag h}{t:Tag K}(hm:W8 y=some m)(hc:x7 h sz m y=some new)(hfit:n+m≤c)(hb:blk h b=some (cells,e,f))
  (hl:off+n*sz+new.length≤cells.length) (hf:f.2≤f.1) (hp:pC new=true) (hk:∀h',blk h' b=some (v5 cells (off+n*sz) new,e,f)→Fr h h' [b]→h'.size=h.size→K (.slice (some ⟨b,off,none⟩) (n+m) c) h'):
  a6V T sz bytes z (.slice (some ⟨b,off,none⟩) n c) y h K s t:=by
 simp only[a6V,a9Y,N7,hm,hc,if_pos hfit]
 split
 ·rename_i hn
  subst hn
  exact hk h hb (Fr.refl _ _) rfl
 ·simp only[wrW,P9,hb]
  exact⟨⟨hl,.inl hf,hp⟩,hk _ (L2 (F5 hb)) ((Fr.refl _ _).set (.inl (by simp)) _) (by simp)⟩
theorem a1h{z:List Value}{b off n c e:Nat}{f:Nat×Nat}{cells:List Value}{K:Value→c9→Prop}{s:Tag h}{t:Tag K}(hb:blk h b=some (cells,e,f))
  (hl:off+(n8 z n).length≤cells.length) (hf:f.2≤f.1) (hp:pC (n8 z n)=true) (hk:∀h',blk h' b=some (v5 cells off (n8 z n),e,f)→Fr h h' [b]→h'.size=h.size→K (.tuple #[]) h'):
  b3g z (.slice (some ⟨b,off,none⟩) n c) h K s t:=by
 simp only[b3g,a5i]
 split
 ·rename_i hn
  subst hn
  exact hk h hb (Fr.refl _ _) rfl
 ·simp only[wrW,hb]
  exact⟨⟨hl,.inl hf,hp⟩,hk _ (L2 (F5 hb)) ((Fr.refl _ _).set (.inl (by simp)) _) (by simp)⟩
theorem R4(hpl:∀x,pC (enc x)=true):∀l:List α,pC (l.flatMap enc)=true:=by
 intro l
 induction l with
 |nil=>rfl
 |cons x l ih=>
  have:∀a b:List Value,pC a=true→pC b=true→pC (a++b)=true:=by
   intro a b ha hb
   induction a with
   |nil=>exact hb
   |cons c a iha=>simp only[pC,a1P,l_j]at ha⊢;exact⟨ha.1,iha ha.2⟩
  rw[X9]
  exact this _ _ (hpl x) ih
theorem R5(enc:α→List Value)(xs:List α)(i:Nat):xs.flatMap enc=(xs.take i).flatMap enc++(xs.drop i).flatMap enc:=by
 rw[←a1p,G0]
theorem a3p(a b c vs:List Value)(hv:vs.length=b.length):v5 (a++(b++c)) a.length vs=a++(vs++c):=by
 rw[v6 a (b++c) [] a.length rfl vs (by simp;omega),l_q,hv,List.drop_left]
theorem Q8(hsz:∀x,(enc x).length=sz)(h0:0<sz)(hpl:∀x,pC (enc x)=true){bytes:Nat}{z:List Value}(hz:z.length=sz){x:α}{cs:List Value}(hx:cs=enc x){K:Value→c9→Prop}{g:Nat}{s:Tag (h.push (.cells cs.toArray T (0,0)))}{t:Tag K}
  (hg:g=h.size) (ho:Own enc sz T base h v xs) (hbase:base≤h.size) (hroom:(xs.length+1)*bytes≤140737488355328) (h63:xs.length+1≤9223372036854775807)
  (hk:∀v' h',Own enc sz T base h' v' (xs++ [x])→Fr h h' (i9 v)→(∀b∈i9 v',b∈i9 v∨h.size≤b)→K v' h'):a6V T sz bytes z v (.slice (some ⟨g,0,none⟩) 1 1) (h.push (.cells cs.toArray T (0,0))) K s t:=by
 subst hg hx
 have ho':Own enc sz T base (h.push (.cells (enc x).toArray T (0,0))) v xs:=ho.keep fun b hb=>G2 (ho.lt b hb).1
 refine a1B (ys:=[x]) hsz h0 hpl hz ho' (by simp;omega) rfl ?_ (by simpa using hroom) (by simpa using h63) ?_
 ·refine T0 rfl ?_
  rw[a4P rfl (by simp[hsz])]
  simp[hsz]
  exact a2E (by rw[hsz];exact x9 _)
 ·intro v' h' ho2 hf hb
  refine hk v' h' ho2 ⟨?_,?_⟩ ?_
  ·have:=hf.size;simp at this;omega
  ·intro b hlt hm
   rw[hf.same b (by simp;omega) hm,Array.getElem?_push,if_neg (by omega)]
  ·intro b hb'
   rcases hb b hb' with h1|h1
   ·exact .inl h1
   ·right;simp at h1;omega
end
theorem FRR{h h':c9}{M:List Nat}(e:Fr h h' M:=by((repeat' (first|exact Fr.refl _ _|assumption|(refine Fr.via (by assumption) ?_ (by intro i hi hm;first|exact hm|exact l_l _ hm|exact absurd hm l_d|(simp only[l_e,l_y,l_d,or_false]at hm⊢;omega)))|refine Fr.push ?_ _|(refine Fr.setM ?_ ?_ _; · first|exact l_n|(simp only[l_e,true_or,or_true];done))|(refine Fr.setN ?_ ?_ _; · first|omega|(simp only[l_c,l_b];omega))));done)):Fr h h' M:=e
end
end Go.Proofs.YtjagmebglhbdkaaGreat.MX
