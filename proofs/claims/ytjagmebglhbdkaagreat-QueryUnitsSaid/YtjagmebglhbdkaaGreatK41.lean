import Derived.Test.YtjagmebglhbdkaaGreatK26
import Derived.Test.YtjagmebglhbdkaaGreatK40
namespace Go.Proofs.YtjagmebglhbdkaaGreat.MX
open Go Go.Proofs
set_option linter.unusedSimpArgs false
set_option linter.unusedVariables false
section
set_option maxHeartbeats 1000000
def L2(w w':Wk):Prop:=∃nw:List Msg,w'.sd=w.sd++nw∧w'.s.key=w.s.key+nw.length∧(∀i,(hi:i<nw.length)→nw[i].key=w.s.key+i)∧w'.s.O.Sublist (w.s.O++nw)
section
variable{w w1 w2 w':Wk}{U:List Unt}{ss:List Sup}{ps:List Pol}
theorem L2.same(h1:w'.sd=w.sd)(h2:w'.s.key=w.s.key)(h3:w'.s.O.Sublist w.s.O):L2 w w':=⟨[],by simp[h1],by simp[h2],fun i hi=>absurd hi (by simp),by simpa using h3⟩
theorem L2.refl(w:Wk):L2 w w:= .same rfl rfl (List.Sublist.refl _)
theorem L2.trans(a:L2 w w1)(b:L2 w1 w2):L2 w w2:=by
 obtain⟨n1,a1,a2,a3,a4⟩:=a
 obtain⟨n2,b1,b2,b3,b4⟩:=b
 refine⟨n1++n2,by rw[b1,a1,l_q],by rw[b2,a2,l_m];omega,fun i hi=> ?_,?_⟩
 ·rw[l_m]at hi
  by_cases hc:i<n1.length
  ·rw[List.getElem_append_left hc];exact a3 i hc
  ·rw[List.getElem_append_right (by omega),b3 _ (by omega),a2];omega
 ·rw[←l_q]
  exact b4.trans (List.Sublist.append_right a4 n2)
theorem a2j(w:Wk)(k n v:Int):L2 w (I4 w k n v):=⟨[⟨w.s.key,k,n,v,1,w.s.now+1⟩],rfl,rfl,fun i hi=>by
 obtain rfl:i=0:=by simp at hi;omega
 simp,List.Sublist.refl _⟩
theorem L3(w:Wk)(i:Nat)(r:Ret):L2 w (w.put i r):= .same rfl rfl (List.Sublist.refl _)
theorem a0z(w:Wk)(n to:Int):L2 w (w.mv n to):= .same rfl rfl (List.Sublist.refl _)
theorem a1y(w:Wk)(i:Nat):L2 w (j2 w i):=by
 unfold j2
 split
 ·exact .same rfl rfl (List.Sublist.refl _)
 ·exact .refl _
theorem a1a{num by_:Int}(h:L7 w num by_= .ok w'):L2 w w':=by
 unfold L7 at h
 split at h
 ·cases h
 ·rename_i r hr
  split at h
  ·cases h
  ·rename_i st hst
   cases h
   have g:=(L3 w (num-1).toNat {r with state:=st}).trans (a1y (w.put (num-1).toNat {r with state:=st}) (num-1).toNat)
   exact g.trans (.same rfl rfl List.filter_sublist)
theorem a5b{num by_:Int}(h:H2 w num by_= .ok w'):L2 w w':=by
 unfold H2 at h
 split at h
 ·cases h
 ·split at h
  ·cases h
  ·cases h;exact L3 _ _ _
theorem a6W(us:List Int)(to:Int):∀w:Wk,L2 w (t6 w us to):=by
 induction us with
 |nil=>exact fun w=> .refl _
 |cons u us ih=>exact fun w=>(a0z w u to).trans (ih _)
theorem b5X{num:Int}(h:a2x w num= .ok w'):L2 w w':=by
 obtain⟨w1,h1,h2⟩:=S8 h
 cases h2
 exact((a5b h1).trans (a6W _ _ _)).trans (.same rfl rfl (List.Sublist.refl _))
theorem a9J{num:Int}(h:O0 w num= .ok w'):L2 w w':=by
 obtain⟨w1,h1,h2⟩:=S8 h
 cases h2
 exact((a5b h1).trans (a6W _ _ _)).trans (.same rfl rfl (List.Sublist.refl _))
theorem a2N{a b sum:Int}(h:Q0 w a b sum= .ok w'):L2 w w':=by
 obtain⟨l,_,rfl⟩:=u4 h
 exact .same rfl rfl (List.Sublist.refl _)
theorem a5A{i:Nat}{sum:Int}(h:V6 w i sum= .ok w'):L2 w w':=(L3 _ _ _).trans (a2N h)
theorem a4k{i:Nat}{sum:Int}(h:R4 w i sum= .ok w'):L2 w w':=by
 unfold R4 at h
 split at h
 ·cases h;exact .refl _
 ·split at h
  ·exact a5A h
  ·cases h;exact a2j _ _ _ _
theorem a6V(w:Wk)(i:Nat):L2 w (y8 w i):=by
 unfold y8
 split
 ·exact L3 _ _ _
 ·exact .refl _
theorem a2k{i:Nat}{by_:Int}(h:G4 ss w i by_= .ok w'):L2 w w':=by
 unfold G4 at h
 split at h
 ·cases h
 ·obtain⟨w1,h1,h⟩:=S8 h
  have g1:=(L3 w i _).trans (a2N h1)
  obtain⟨w2,h2,rfl⟩:=u4 h
  refine(g1.trans ?_).trans (a6V _ _)
  split at h2
  ·split at h2
   ·exact(a1y _ _).trans (a4k h2)
   ·exact(a2j _ _ _ _).trans (a4k h2)
  ·exact a4k h2
theorem a5B(w:Wk)(i:Nat):∀j,L2 w (u9 U w i j)
 |0=> .refl _
 |j+1=>((a5B w i j).trans (a0z _ _ _)).trans (L3 _ _ _)
theorem b8o{num:Int}(h:a1w ss U w num= .ok w'):L2 w w':=by
 unfold a1w at h
 split at h
 ·cases h
 ·split at h
  ·exact(a5B w _ _).trans (a2k h)
  ·split at h
   ·exact a1a h
   ·cases h;exact .refl _
theorem a2M{α:Type}{f:Wk→α→Except Int Wk}(hf:∀{w w':Wk}{x:α},f w x= .ok w'→L2 w w'):∀{l:List α}{w w':Wk},M1 f w l= .ok w'→L2 w w'
 | [],w,w',h=>by cases h;exact .refl _
 |x::l,w,w',h=>by
  obtain⟨w1,h1,h2⟩:=S8 h
  exact(hf h1).trans (a2M hf h2)
theorem b2K{key:Int}{yes:Bool}(h:Y1 ss w key yes= .ok w'):∃(j:Nat) (hj:j<w.s.O.length),w.s.O[j].key=key∧L2 {w with s:={w.s with O:=w.s.O.take j++w.s.O.drop (j+1)} } w':=by
 unfold Y1 at h
 split at h
 ·cases h
 ·rename_i j hj
  rw[a8b]at hj
  obtain⟨hjl,hk,_⟩:=hj
  refine⟨j,hjl,by simpa using hk,?_⟩
  simp only at h
  split at h
  ·cases h
  ·split at h
   ·exact a1a h
   ·obtain⟨w2,h2,rfl⟩:=u4 h
    refine L2.trans ?_ (a6V _ _)
    split at h2
    ·exact a5b h2
    ·split at h2
     ·unfold a0E at h2
      split at h2
      ·exact(L3 _ _ _).trans (a2N h2)
      ·exact a5A h2
     ·split at h2
      ·unfold I6 at h2
       simp only at h2
       split at h2
       ·split at h2
        ·exact((L3 _ _ _).trans (a0z _ _ _)).trans (a2N h2)
        ·cases h2
       ·exact(a1y _ _).trans (a4k h2)
      ·split at h2
       ·cases h2;exact a0z _ _ _
       ·cases h2
theorem b2J{c:Cmd}(h:T1 ps ss U w c= .ok w'):L2 w w':=by
 unfold T1 at h
 split at h
 ·cases h
 ·split at h
  ·cases h
  ·split at h
   ·cases h
   ·split at h
    ·cases h
    ·unfold a0M at h
     simp only at h
     by_cases ht:(C9 ps (j6 U c.unit).cat).gto c.grade≠0
     ·simp only[if_pos ht]at h
      split at h
      ·cases h
       exact(L3 _ _ _).trans (a0z _ _ _)
      ·exact((L3 _ _ _).trans (a0z _ _ _)).trans (a2k h)
     ·simp only[if_neg ht]at h
      split at h
      ·cases h
       exact((L3 _ _ _).trans (a0z _ _ _)).trans (a2j _ _ _ _)
      ·exact(((L3 _ _ _).trans (a0z _ _ _)).trans (a2j _ _ _ _)).trans (a2k h)
theorem a9K{os:List Odr}{c:Cmd}{x:Int×Wk}(h:E2 ps os ss U w c= .ok x):L2 w x.2:=by
 unfold E2 at h
 split at h
 ·cases h
 ·split at h
  ·cases h
  ·split at h
   ·cases h
   ·obtain⟨y,h3,rfl⟩:=u4 h
    have g:L2 w y.2:=by
     unfold V8 at h3
     split at h3
     ·cases h3;exact .refl _
     ·split at h3
      ·cases h3
      ·split at h3
       ·cases h3
       ·cases h3;exact .same rfl rfl (List.Sublist.refl _)
    exact(g.trans (.same (w':={y.2 with s:={y.2.s with R:=_,T:=_} }) rfl rfl (List.Sublist.refl _))).trans (a2j _ _ _ _)
def a6o(s:Sag):Prop:=(∀m∈s.O,m.key<s.key)∧s.O.Pairwise (fun a b=>a.key≠b.key)
theorem a8F(g:L2 w w')(h:a6o w.s):a6o w'.s:=by
 obtain⟨nw,_,hk,hn,hs⟩:=g
 have hnm:∀m∈nw,w.s.key≤m.key∧m.key<w'.s.key:=fun m hm=>by
  obtain⟨i,hi,rfl⟩:=U9 hm
  rw[hn i hi,hk]
  omega
 refine⟨fun m hm=> ?_,List.Pairwise.sublist hs ?_⟩
 ·rcases List.mem_append.1 (hs.subset hm)with h1|h1
  ·have:=h.1 m h1;rw[hk];omega
  ·exact(hnm m h1).2
 ·rw[a1c]
  refine⟨h.2,?_,fun a ha b hb=> ?_⟩
  ·rw[List.pairwise_iff_getElem]
   intro i j hi hj hij
   rw[hn i hi,hn j hj]
   omega
  ·have:=h.1 a ha
   have:=(hnm b hb).1
   omega
end
end
section
set_option maxHeartbeats 16000000
theorem Y9(st by_:Int)(hb:by_=2∨by_=3∨by_=7∨by_=9)(h:c9):d8 Tryz.prog 99 [.int .i64 st,.int .i64 by_] h fun v h'=>v= .int .i64 ((E1 st by_).getD 0)∧h'=h:=by
 have hs:st=1∨st=2∨st=3∨(¬st=1∧¬st=2∧¬st=3):=by omega
 rcases hb with rfl|rfl|rfl|rfl<;>rcases hs with rfl|rfl|rfl|hs
 all_goals
  refine EN i99.eq_1 fun K hK=>Wa ?_
  first|(refine Wb hs ?_)|(refine Wa ?_)
  exact hK _ _ ⟨by first|rfl|simp[E1,hs],rfl⟩
theorem b8Z(st b:Int)(hb:b=7∨b=9):(E1 st b).getD 0=if st=1∨st=2 then b else 0:=by
 rcases hb with rfl|rfl<;>(by_cases h:st=1∨st=2<;>simp[E1,h])
theorem nx_2(st:Int):(E1 st 2).getD 0=if st=2 then 3 else 0:=by
 by_cases h:st=2<;>simp[E1,h]
theorem nx_3(st:Int):(E1 st 3).getD 0=if st=3 then 4 else 0:=by
 by_cases h:st=3<;>simp[E1,h]
theorem b8y{pr n:Int}(hp:0≤pr):∀{O:List Msg},(∀m∈O,m.kind=2→0≤m.value)→∀x∈O,x.rma=n→x.kind=2→x.value≤N4 pr n O
 | [],_,x,hx,_,_=>absurd hx (by simp)
 |m::O,h,x,hx,h1,h2=>by
  have hd:N4 pr n (m::O)=a1v pr n m+N4 pr n O:=by simp[N4]
  have h0:0≤a1v pr n m:=by
   unfold a1v
   have:=h m (by simp)
   (repeat' split)<;>first|omega|(rename_i a b;exact this b)
  rw[hd]
  rcases List.mem_cons.1 hx with rfl|hx
  ·have:=b2E (n:=n) hp (O:=O) fun y hy=>h y (by simp[hy])
   have e:a1v pr n x=x.value:=by unfold a1v;rw[if_pos h1,if_pos h2]
   omega
  ·have:=b8y hp (O:=O) (fun y hy=>h y (by simp[hy])) x hx h1 h2
   omega
theorem c4b{D:Cfg}{U:List Unt}{w:Wk}{m:Nat}(hD:Stc D U)(I:Inv D U w 1000 0)(Wf:w.wf U m){x:Msg}(hx:x∈w.s.O)(h2:x.kind=2):0≤x.value∧x.value≤858993459200:=by
 have hI:=I.msg x hx
 obtain⟨i,hi⟩:∃i:Nat,x.rma=(i:Int)+1:=⟨(x.rma-1).toNat,by have:=hI.rma;omega⟩
 have hil:i<w.s.R.length:=by have:=hI.rma;omega
 have hk:=hI.k2 h2
 rw[hi,show((i:Int)+1-1).toNat=i by omega]at hk
 have hm:=I.mon i hil (.inl hk.1)
 have hr:=I.ret i hil
 have hw:=K1 hD hr (Wf.len _ (C5 hil))
 have hp:=hr.pos
 have hl:=b8y (a5o hD (w.R i)).1 (fun y hy hk=>by have:=((I.msg y hy).k2 hk).2;omega) x hx hi h2
 unfold tol at hm
 split at hm<;>omega
theorem b0l(T:List Tm)(n:Int):without (without T n) n=without T n:=by
 unfold without
 rw[List.filter_filter]
 congr 1
 funext x
 simp
theorem b9L(w:Wk)(n d:Int):a2B (R6 w n) n d=a2B w n d:=by
 unfold a2B R6 setT
 simp only[b0l]
def c4D(h0:c9)(L:U1)(C:Cfg)(u:Value)(l:List HP)(x:Except Int (Int×List Msg×Wk))(v:Value)(h':c9):Prop:=match x with
 | .error e=>e≠0∧(∃a b,v= .tuple #[a,b,.int .i64 e])∧St h0 h' l
 | .ok y=>∃s,v= .tuple #[.int .i64 y.1,s,.int .i64 0]∧∃A c,St h0 h' (f8 Msg.enc 6 127 s y.2.1::m9 {L with A:=A,c:=c} C u y.2.2::l)
theorem a5h(us:List Int)(to:Int)(w:Wk):(t6 w us to).s.R=w.s.R:=by rw[J9]
theorem a6c(us:List Int)(to:Int)(w:Wk)(i:Nat):(t6 w us to).R i=w.R i:=by unfold Wk.R;rw[a5h]
section
variable{h0 h:c9}{l:List HP}{L:U1}{C:Cfg}{w:Wk}{U:List Unt}{m n b i:Nat}{Au:Option Addr}{cu:Nat}
theorem c3c(x:i5)(hc:∀h',St h0 h' l→C.rd h')(hu:∀h',St h0 h' l→Arr Unt.enc 4 h' Au U)(hx:∀h',St h0 h' l→Arr i4 1 h' x.A x.c.us)(hD:Stc C U)(hf:x.c.formed)(I:Inv C U w 1000 0)(hkd:w.s.O.Pairwise fun a b=>a.key≠b.key)(S:St h0 h (m9 L C (.slice Au U.length cu) w::l))(W:w.wf U m)(hm:m<100000):
  d8 Tryz.prog 49 [.pointer (some ⟨L.p,0,none⟩),.agg x.enc.toArray] h fun v h'=>c4D h0 L C (.slice Au U.length cu) l (doQ C U w x.c) v h':=by
 have hul:=hD.ul
 have hrl:=W.rl
 have hnow:=W.now
 have B:=b3N hD I (Int.le_refl 0) W
 have hst:∀r∈w.s.R,1≤r.state∧r.state≤9:=fun r hr=>by
  obtain⟨i,hi,rfl⟩:=U9 hr
  have:=(I.ret i hi).st
  rwa[show w.R i=w.s.R[i] by unfold Wk.R;rw[l_s,l_r hi];rfl]at this
 have hnn:∀r∈w.s.R,1≤r.num:=fun r hr=>by
  obtain⟨i,hi,rfl⟩:=U9 hr
  have:=(I.ret i hi).num
  rw[show w.R i=w.s.R[i] by unfold Wk.R;rw[l_s,l_r hi];rfl]at this
  omega
 obtain⟨dq,hdq⟩:∃dq,dq=doQ C U w x.c:=⟨_,rfl⟩
 rw[←hdq]
 unfold doQ at hdq
 have hfit:=hf.1
 unfold Cmd.fits at hfit
 refine EN i49.eq_1 fun K hK=>Wa ?_
 (revert S;(try clear F);refine AL fun g h S F=> ?_)
 have S:St h0 h (m9 L C (.slice Au U.length cu) w::d9 g x.enc 44::l):=S.p1
 have F:∀off,rd1 h (.pointer (some ⟨g,off,none⟩))=x.enc[off]? :=fun off=>j3 S.p1.blk
 have FN:rdN h g 0 12=some x.enc:=n7 S.p1.blk (l_a rfl)
 by_cases k1:x.c.kind=1
 ·rw[if_pos k1]at hdq hfit
  (try simp(disch:=first|omega|assumption|exact l_a rfl) only[go_sem,↓wBk,simprocAttr,F,i5.enc,eq_true k1,FN])
  refine cI (b1M x (fun h' S=>hc _ S.tl) (fun h' S=>hu _ S.tl) (fun h' S=>hx _ S.tl) ⟨hfit.1.1,by omega⟩ hD ⟨hfit.2.1.1,hfit.2.2.1.1,hfit.2.2.2.1.1,fun u hu=>(hfit.2.2.2.2 u hu).1⟩ S W (by omega) hst hnn) ?_
  clear S F FN
  cases hrq:E2 C.ps C.os C.ss U w x.c with
  |error e=>
   rw[hrq]at hdq
   rw[hdq]at hK
   rintro _ h ⟨he,rfl,S⟩
   refine Wa ?_
   exact hK _ _ ⟨he,⟨_,_,rfl⟩,S.tl⟩
  |ok y=>
   rw[hrq]at hdq
   rw[hdq]at hK
   rintro _ h ⟨rfl,A,c,S⟩
   refine Wa ?_
   exact hK _ _ ⟨_,rfl,A,c,S.d1.nilS⟩
 rw[if_neg k1]at hdq hfit
 by_cases k7:x.c.kind=7
 ·rw[if_pos k7]at hdq
  by_cases d1:x.c.days<1
  ·rw[if_pos (.inl d1)]at hdq
   rw[hdq]at hK
   refine We F @i5.enc.eq_1 k7 d1 ?_
   exact hK _ _ ⟨by decide,⟨_,_,rfl⟩,S.tl.tl⟩
  by_cases d2:1000<x.c.days
  ·rw[if_pos (.inr d2)]at hdq
   rw[hdq]at hK
   refine Wf F @i5.enc.eq_1 k7 d1 d2 ?_
   exact hK _ _ ⟨by decide,⟨_,_,rfl⟩,S.tl.tl⟩
  rw[if_neg (fun h=>h.elim d1 d2)]at hdq
  have F14:=S.mrNow
  by_cases d3:100000<w.s.now+x.c.days
  ·rw[if_pos d3]at hdq
   rw[hdq]at hK
   refine Wf F @i5.enc.eq_1 k7 d1 d2 ?_
   refine dE ?_
   refine We F @i5.enc.eq_1 @F14 d3 ?_
   exact hK _ _ ⟨by decide,⟨_,_,rfl⟩,S.tl.tl⟩
  rw[if_neg d3]at hdq
  rw[hdq]at hK
  refine Wf F @i5.enc.eq_1 k7 d1 d2 ?_
  refine dE ?_
  refine We F @i5.enc.eq_1 @F14 d3 ?_
  refine cI (b9V x.c.days (fun h' S=>hc _ S.tl) (fun h' S=>hu _ S.tl) hD I S W hm (by omega) (by omega)) ?_
  clear S F FN F14
  intro v h S
  refine Wa ?_
  exact hK _ _ ⟨_,rfl,L.A,L.c,S.p2.tl⟩
 rw[if_neg k7]at hdq
 by_cases k8:x.c.kind=8
 ·rw[if_pos k8]at hdq
  refine Wd F @i5.enc.eq_1 k8 ?_
  refine cI (b6x x.c.key x.c.yes (fun h' S=>hc _ S.tl) hD S W (by omega) B (by omega) hkd (fun y hy=>⟨(I.msg y hy).rma,(I.msg y hy).kind,fun h2=>by have:=c4b hD I W hy h2;omega⟩) (fun i hi=>(I.ret i hi).num)) ?_
  clear S F FN
  have hrq:b3i C.ss w x.c.key x.c.yes=match w.s.O.findIdx? fun m=>decide (m.key=x.c.key)with
   |none=> .error 16
   |some k=> .ok (T2 C.ss {w with s:={w.s with O:=w.s.O.take k++w.s.O.drop (k+1)} } (w.s.O.getD k Msg.zero) x.c.yes):=rfl
  rw[hrq]
  clear hrq
  cases hfd:w.s.O.findIdx? fun m=>decide (m.key=x.c.key)with
  |none=>
   rw[hfd]at hdq
   simp only at hdq
   rw[hdq]at hK
   rintro _ h ⟨he,rfl,S⟩
   refine Wa ?_
   exact hK _ _ ⟨he,⟨_,_,rfl⟩,S.tl⟩
  |some k=>
   rw[hfd]at hdq
   simp only at hdq
   rw[hdq]at hK
   rintro _ h ⟨rfl,S⟩
   refine Wa ?_
   exact hK _ _ ⟨_,rfl,L.A,L.c,S.d1.nilS⟩
 rw[if_neg k8]at hdq
 have hk:x.c.kind=2∨x.c.kind=3∨x.c.kind=4∨x.c.kind=5∨x.c.kind=6:=by
  by_cases a:2≤x.c.kind∧x.c.kind≤5
  ·omega
  ·rw[if_neg a]at hfit
   by_cases b:x.c.kind=6
   ·omega
   ·rw[if_neg b,if_neg k7,if_neg k8]at hfit
    exact hfit.elim
 have FR:=S.mrR
 unfold onR at hdq
 by_cases r1:x.c.rma<1
 ·rw[if_pos (.inl r1)]at hdq
  rw[hdq]at hK
  refine Wf F @i5.enc.eq_1 k1 k7 k8 ?_
  refine dE ?_
  refine Wd F @i5.enc.eq_1 r1 ?_
  exact hK _ _ ⟨by decide,⟨_,_,rfl⟩,S.tl.tl⟩
 by_cases r2:w.s.R.length<x.c.rma
 ·rw[if_pos (.inr r2)]at hdq
  rw[hdq]at hK
  refine Wf F @i5.enc.eq_1 k1 k7 k8 ?_
  refine dE ?_
  refine Wf F @i5.enc.eq_1 r1 @FR r2 ?_
  exact hK _ _ ⟨by decide,⟨_,_,rfl⟩,S.tl.tl⟩
 rw[if_neg (fun h=>h.elim r1 r2)]at hdq
 obtain⟨i,hi⟩:∃i:Nat,x.c.rma=(i:Int)+1:=⟨(x.c.rma-1).toNat,by omega⟩
 have hil:i<w.s.R.length:=by omega
 have hri':(i:Int)+1-1=(i:Int):=by omega
 have e:(x.c.rma-1).toNat=i:=by omega
 rw[e]at hdq
 clear e
 dsimp only at hdq
 obtain⟨b,hA⟩:∃b,L.A=some ⟨b,0,none⟩:=by
  obtain⟨k,t,o,sd,vs,hv,S⟩:=St.mo.1 S
  exact(St.p4 S).ownAt (by rw[←l_z (f:=f9.r),hv];omega)
 rw[hA]at FR
 have q6:rd1 h (.pointer (some ⟨b,i*14+6,none⟩))=some (.int .i64 (w.R i).state):=S.mrRet hA hil (j:=6) (by omega) (by omega)
 have hnm:=(I.ret i hil).num
 have hss:=(I.ret i hil).st
 have r1':¬(i:Int)+1<1:=by omega
 have r2':¬(w.s.R.length:Int)<(i:Int)+1:=by omega
 rcases hk with k2|k2|k2|k2|k2
 ·rw[if_pos (show x.c.kind=2∨x.c.kind=3 from .inl k2)]at hdq
  rw[if_neg (show ¬x.c.kind=3 by omega)]at hdq
  refine Wd F @i5.enc.eq_1 k2 ?_
  refine dE ?_
  refine Wh F @i5.enc.eq_1 k2 hi r1' @FR r2' ?_
  refine dE ?_
  refine Wh F @i5.enc.eq_1 k2 hi @FR hri' q6 ?_
  refine cI (Y9 (w.R i).state 9 (by decide) _) ?_
  rintro _ h ⟨rfl,rfl⟩
  rw[b8Z _ 9 (by decide)]
  by_cases d:(w.R i).state=1∨(w.R i).state=2
  ·rw[if_pos d]at hdq⊢
   rw[hdq]at hK
   refine Wa ?_
   refine cV (a4b 9 S W hul (by omega) hA hil hnm) ?_
   clear S F FN FR q6
   intro h S
   refine Wa ?_
   exact hK _ _ ⟨_,rfl,L.A,L.c,S.d1.nilS⟩
  ·rw[if_neg d]at hdq⊢
   rw[hdq]at hK
   refine Wa ?_
   exact hK _ _ ⟨by decide,⟨_,_,rfl⟩,S.tl.tl⟩
 ·rw[if_pos (show x.c.kind=2∨x.c.kind=3 from .inr k2)]at hdq
  rw[if_pos k2]at hdq
  refine Wd F @i5.enc.eq_1 k2 ?_
  refine dE ?_
  refine Wh F @i5.enc.eq_1 k2 hi r1' @FR r2' ?_
  refine dE ?_
  refine Wh F @i5.enc.eq_1 k2 hi @FR hri' q6 ?_
  refine cI (Y9 (w.R i).state 7 (by decide) _) ?_
  rintro _ h ⟨rfl,rfl⟩
  rw[b8Z _ 7 (by decide)]
  by_cases d:(w.R i).state=1∨(w.R i).state=2
  ·rw[if_pos d]at hdq⊢
   rw[hdq]at hK
   refine Wa ?_
   refine cV (a4b 7 S W hul (by omega) hA hil hnm) ?_
   clear S F FN FR q6
   intro h S
   refine Wa ?_
   exact hK _ _ ⟨_,rfl,L.A,L.c,S.d1.nilS⟩
  ·rw[if_neg d]at hdq⊢
   rw[hdq]at hK
   refine Wa ?_
   exact hK _ _ ⟨by decide,⟨_,_,rfl⟩,S.tl.tl⟩
 ·rw[if_neg (show ¬(x.c.kind=2∨x.c.kind=3) by omega),if_pos k2]at hdq
  refine Wd F @i5.enc.eq_1 k2 ?_
  refine dE ?_
  refine Wh F @i5.enc.eq_1 k2 hi r1' @FR r2' ?_
  refine dE ?_
  refine Wh F @i5.enc.eq_1 k2 hi @FR hri' q6 ?_
  refine cI (Y9 (w.R i).state 2 (by decide) _) ?_
  rintro _ h ⟨rfl,rfl⟩
  rw[nx_2]
  by_cases d:(w.R i).state=2
  ·rw[if_pos d]at hdq⊢
   rw[hdq]at hK
   rw[d]at q6
   refine Wb q6 ?_
   refine cI (Y9 2 2 (by decide) _) ?_
   rintro _ h ⟨rfl,rfl⟩
   have hnx:(E1 2 2).getD 0=3:=rfl
   rw[hnx]
   refine Wa ?_
   refine L4 (r':={w.R i with state:=3}) S hA hil (j:=6) (by omega) rfl rfl rfl (fun x hx=>by rw[f9.enc,f9.enc,hx];rfl) ?_
   clear S F FN FR q6
   intro h S
   have W1:(w.put i {w.R i with state:=3}).wf U m:=W.putR hil rfl rfl
   have hi1:i<(w.put i {w.R i with state:=3}).s.R.length:=by rw[n8];exact hil
   have hu1:((w.put i {w.R i with state:=3}).R i).us=(w.R i).us:=by rw[D7 hil]
   have hn1:((w.put i {w.R i with state:=3}).R i).num=i+1:=by rw[D7 hil];exact hnm
   have hdef:a7t w i=(fun v=>a2B v (i+1) (w.s.now+30)) (t6 (w.put i {w.R i with state:=3}) (w.R i).us 1):=rfl
   rw[hdef]at hK
   clear hdef
   have hT1:(w.put i {w.R i with state:=3}).s.now=w.s.now:=rfl
   generalize w.put i {w.R i with state:=3}=w1 at*
   have hlen:=(W.len _ (C5 hil)).1
   obtain⟨A8,c8,q8,-⟩:=S.mrUs hA hi1
   rw[hu1]at q8
   refine Wb q8 ?_
   refine LKp (Nat.zero_add 0) [0,3,9,122] (fun ρ h'=>∃j:Nat,ρ 123= .int .i64 j∧j≤(w.R i).us.length∧St h0 h' (m9 L C (.slice Au U.length cu) (t6 w1 ((w.R i).us.take j) 1)::d9 g x.enc 44::l)) (fun ρ _=>(w.R i).us.length-(iv (ρ 123)).toNat) ?_ ?_
   ·refine Wa ?_
    exact⟨0,rfl,by omega,S⟩
   clear S q8
   rintro ρ h J ⟨e0,e3,e9,e122⟩ hJ ⟨j,e123,hj,S⟩
   refine Wc e122 e123 ?_
   refine cD (fun hlt=> ?_) (fun hlt=> ?_)
   ·have hjl:j<(w.R i).us.length:=by omega
    have hRj:(t6 w1 ((w.R i).us.take j) 1).s.R=w1.s.R:=a5h _ _ _
    have hij:i<(t6 w1 ((w.R i).us.take j) 1).s.R.length:=by rw[hRj];exact hi1
    have huj:((t6 w1 ((w.R i).us.take j) 1).R i).us=(w.R i).us:=by rw[a6c];exact hu1
    obtain⟨Wj,-⟩:=X2 ((w.R i).us.take j) 1 W1
    have hklj:=Wj.kl
    have hstep:t6 w1 ((w.R i).us.take (j+1)) 1=(t6 w1 ((w.R i).us.take j) 1).mv (w.R i).us[j] 1:=by
     unfold t6
     rw[l_t hjl,List.foldl_append]
     rfl
    obtain⟨A8,c8,q8,h8⟩:=S.mrUs hA hij
    rw[huj]at q8 h8
    obtain⟨b8,o8,hA8,q9⟩:=h8.at hjl
    rw[hA8]at q8
    have q9:=rP0 q9 (by omega)
    simp only[i4,l_o,l9]at q9
    have F:∀off,rd1 h (.pointer (some ⟨g,off,none⟩))=x.enc[off]? :=fun off=>j3 S.p1.blk
    refine Wa ?_
    refine dE ?_
    refine Wi e0 e3 e9 e123 q8 q9 F (Pd @i5.enc.eq_1 k2 @l9) ?_
    refine cV (P8 (w.R i).us[j] 1 S (by omega)) ?_
    clear S q8 q9 h8 F
    intro h S
    refine Wb e123 ?_
    refine hJ _ _ ?_ ?_
    ·refine Wa ?_
     exact⟨j+1,rfl,by omega,by rw[hstep];exact S⟩
    ·refine Wb e123 ?_
     omega
   obtain rfl:j=(w.R i).us.length:=by omega
   rw[D4]at S
   obtain⟨Wv,hRv⟩:=X2 (w.R i).us 1 W1
   have hiv:i<(t6 w1 (w.R i).us 1).s.R.length:=by rw[hRv];exact hi1
   have hnv:((t6 w1 (w.R i).us 1).R i).num=i+1:=by rw[a6c];exact hn1
   have hnw:(t6 w1 (w.R i).us 1).s.now=w.s.now:=by rw[J9];exact hT1
   generalize t6 w1 (w.R i).us 1=v at*
   have hlv:=Wv.tl
   have hgv:=Wv.tg
   have q0:rd1 h (.pointer (some ⟨b,i*14+0,none⟩))=some (.int .i64 ((i:Int)+1)):=by rw[←hnv];exact S.mrRet hA hiv (j:=0) (by omega) (by omega)
   rw[H8]at q0
   refine Wd e0 e9 q0 ?_
   refine cV (a2E ((i:Int)+1) S (by omega)) ?_
   clear S q0
   intro h S
   have F14:=S.mrNow
   have F:∀off,rd1 h (.pointer (some ⟨g,off,none⟩))=x.enc[off]? :=fun off=>j3 S.p1.blk
   have q0:rd1 h (.pointer (some ⟨b,i*14+0,none⟩))=some (.int .i64 ((i:Int)+1)):=by rw[←hnv];exact S.mrRet hA hiv (j:=0) (by omega) (by omega)
   rw[H8]at q0
   have F14:rd1 h (.pointer (some ⟨L.p,14,none⟩))=some (.int .i64 w.s.now):=by rw[←hnw];exact F14
   refine We e3 F @i5.enc.eq_1 k2 ?_
   refine dE ?_
   refine We e0 e9 @F14 q0 ?_
   refine cV (b4K ((i:Int)+1) (w.s.now+30) S (T0 hgv _) (by have:=hlv;show(without v.s.T _).length<_;exact Nat.lt_of_le_of_lt (List.length_filter_le _ _) (by omega))) ?_
   clear S F F14 q0
   intro h S
   rw[b9L]at S
   refine Wa ?_
   exact hK _ _ ⟨_,rfl,L.A,L.c,S.d1.nilS⟩
  ·rw[if_neg d]at hdq⊢
   rw[hdq]at hK
   refine Wa ?_
   exact hK _ _ ⟨by decide,⟨_,_,rfl⟩,S.tl.tl⟩
 ·rw[if_neg (show ¬(x.c.kind=2∨x.c.kind=3) by omega),if_neg (show ¬x.c.kind=4 by omega),if_pos k2]at hdq
  refine Wd F @i5.enc.eq_1 k2 ?_
  refine dE ?_
  refine Wh F @i5.enc.eq_1 k2 hi r1' @FR r2' ?_
  refine dE ?_
  refine Wh F @i5.enc.eq_1 k2 hi @FR hri' q6 ?_
  refine cI (Y9 (w.R i).state 3 (by decide) _) ?_
  rintro _ h ⟨rfl,rfl⟩
  rw[nx_3]
  by_cases d:(w.R i).state=3
  ·rw[if_pos d]at hdq⊢
   rw[hdq]at hK
   rw[d]at q6
   refine Wb q6 ?_
   refine cI (Y9 3 3 (by decide) _) ?_
   rintro _ h ⟨rfl,rfl⟩
   have hnx:(E1 3 3).getD 0=4:=rfl
   rw[hnx]
   refine Wa ?_
   refine L4 (r':={w.R i with state:=4}) S hA hil (j:=6) (by omega) rfl rfl rfl (fun x hx=>by rw[f9.enc,f9.enc,hx];rfl) ?_
   clear S F FN FR q6
   intro h S
   have W1:(w.put i {w.R i with state:=4}).wf U m:=W.putR hil rfl rfl
   have hi1:i<(w.put i {w.R i with state:=4}).s.R.length:=by rw[n8];exact hil
   have hu1:((w.put i {w.R i with state:=4}).R i).us=(w.R i).us:=by rw[D7 hil]
   have hn1:((w.put i {w.R i with state:=4}).R i).num=i+1:=by rw[D7 hil];exact hnm
   have hdef:a0q w i=(fun v=>R6 v (i+1)) (t6 (w.put i {w.R i with state:=4}) (w.R i).us 2):=rfl
   rw[hdef]at hK
   clear hdef
   have hT1:(w.put i {w.R i with state:=4}).s.now=w.s.now:=rfl
   generalize w.put i {w.R i with state:=4}=w1 at*
   have hlen:=(W.len _ (C5 hil)).1
   obtain⟨A8,c8,q8,-⟩:=S.mrUs hA hi1
   rw[hu1]at q8
   refine Wb q8 ?_
   refine LKp (Nat.zero_add 0) [0,3,9,122] (fun ρ h'=>∃j:Nat,ρ 123= .int .i64 j∧j≤(w.R i).us.length∧St h0 h' (m9 L C (.slice Au U.length cu) (t6 w1 ((w.R i).us.take j) 2)::d9 g x.enc 44::l)) (fun ρ _=>(w.R i).us.length-(iv (ρ 123)).toNat) ?_ ?_
   ·refine Wa ?_
    exact⟨0,rfl,by omega,S⟩
   clear S q8
   rintro ρ h J ⟨e0,e3,e9,e122⟩ hJ ⟨j,e123,hj,S⟩
   refine Wc e122 e123 ?_
   refine cD (fun hlt=> ?_) (fun hlt=> ?_)
   ·have hjl:j<(w.R i).us.length:=by omega
    have hRj:(t6 w1 ((w.R i).us.take j) 2).s.R=w1.s.R:=a5h _ _ _
    have hij:i<(t6 w1 ((w.R i).us.take j) 2).s.R.length:=by rw[hRj];exact hi1
    have huj:((t6 w1 ((w.R i).us.take j) 2).R i).us=(w.R i).us:=by rw[a6c];exact hu1
    obtain⟨Wj,-⟩:=X2 ((w.R i).us.take j) 2 W1
    have hklj:=Wj.kl
    have hstep:t6 w1 ((w.R i).us.take (j+1)) 2=(t6 w1 ((w.R i).us.take j) 2).mv (w.R i).us[j] 2:=by
     unfold t6
     rw[l_t hjl,List.foldl_append]
     rfl
    obtain⟨A8,c8,q8,h8⟩:=S.mrUs hA hij
    rw[huj]at q8 h8
    obtain⟨b8,o8,hA8,q9⟩:=h8.at hjl
    rw[hA8]at q8
    have q9:=rP0 q9 (by omega)
    simp only[i4,l_o,l9]at q9
    have F:∀off,rd1 h (.pointer (some ⟨g,off,none⟩))=x.enc[off]? :=fun off=>j3 S.p1.blk
    refine Wa ?_
    refine dE ?_
    refine Wi e0 e3 e9 e123 q8 q9 F (Pd @i5.enc.eq_1 k2 @l9) ?_
    refine cV (P8 (w.R i).us[j] 2 S (by omega)) ?_
    clear S q8 q9 h8 F
    intro h S
    refine Wb e123 ?_
    refine hJ _ _ ?_ ?_
    ·refine Wa ?_
     exact⟨j+1,rfl,by omega,by rw[hstep];exact S⟩
    ·refine Wb e123 ?_
     omega
   obtain rfl:j=(w.R i).us.length:=by omega
   rw[D4]at S
   obtain⟨Wv,hRv⟩:=X2 (w.R i).us 2 W1
   have hiv:i<(t6 w1 (w.R i).us 2).s.R.length:=by rw[hRv];exact hi1
   have hnv:((t6 w1 (w.R i).us 2).R i).num=i+1:=by rw[a6c];exact hn1
   have hnw:(t6 w1 (w.R i).us 2).s.now=w.s.now:=by rw[J9];exact hT1
   generalize t6 w1 (w.R i).us 2=v at*
   have hlv:=Wv.tl
   have hgv:=Wv.tg
   have q0:rd1 h (.pointer (some ⟨b,i*14+0,none⟩))=some (.int .i64 ((i:Int)+1)):=by rw[←hnv];exact S.mrRet hA hiv (j:=0) (by omega) (by omega)
   rw[H8]at q0
   refine Wd e0 e9 q0 ?_
   refine cV (a2E ((i:Int)+1) S (by omega)) ?_
   clear S q0
   intro h S
   have F:∀off,rd1 h (.pointer (some ⟨g,off,none⟩))=x.enc[off]? :=fun off=>j3 S.p1.blk
   refine We e3 F @i5.enc.eq_1 k2 ?_
   exact hK _ _ ⟨_,rfl,L.A,L.c,S.d1.nilS⟩
  ·rw[if_neg d]at hdq⊢
   rw[hdq]at hK
   refine Wa ?_
   exact hK _ _ ⟨by decide,⟨_,_,rfl⟩,S.tl.tl⟩
 ·rw[if_neg (show ¬(x.c.kind=2∨x.c.kind=3) by omega),if_neg (show ¬x.c.kind=4 by omega),if_neg (show ¬x.c.kind=5 by omega)]at hdq
  have hg0:0≤x.c.grade:=by rw[if_neg (by omega),if_pos k2]at hfit;exact hfit.2.2.1
  have hI:=I.ret i hil
  have k3':¬x.c.kind=2:=by omega
  have k4':¬x.c.kind=3:=by omega
  have k5':¬x.c.kind=4:=by omega
  have k6':¬x.c.kind=5:=by omega
  refine Wf F @i5.enc.eq_1 k1 k7 k8 ?_
  refine dE ?_
  refine Wg F @i5.enc.eq_1 hi r1' @FR r2' ?_
  refine dE ?_
  (try simp(disch:=first|omega|assumption|exact l_a rfl) only[go_sem,↓wBk,simprocAttr,F,i5.enc,hi,FR,hri',k3',k4',k5',k6',eq_true k2])
  simp only[FN]
  (try simp(disch:=first|omega|assumption|exact l_a rfl) only[go_sem,↓wBk,simprocAttr,show x.enc.length=12 from rfl])
  refine cI (b5U x (fun h' S=>hc _ S.tl) (fun h' S=>hu _ S.tl) hD S W (by omega) B (by omega) hI.rea (K1 hD hI (W.len _ (C5 hil))) hg0 hA hil) ?_
  clear S F FN FR q6
  cases hrq:a6U C.ps C.ss U w x.c i with
  |error e=>
   rw[hrq]at hdq
   rw[hdq]at hK
   rintro _ h ⟨he,rfl,S⟩
   refine Wa ?_
   exact hK _ _ ⟨he,⟨_,_,rfl⟩,S.tl⟩
  |ok y=>
   rw[hrq]at hdq
   rw[hdq]at hK
   rintro _ h ⟨rfl,S⟩
   refine Wa ?_
   exact hK _ _ ⟨_,rfl,L.A,L.c,S.d1.nilS⟩
end
end
end Go.Proofs.YtjagmebglhbdkaaGreat.MX
