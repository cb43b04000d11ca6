import Derived.Test.YtjagmebglhbdkaaGreatK26
import Derived.Test.YtjagmebglhbdkaaGreatK40
namespace Go.Proofs.YtjagmebglhbdkaaGreat.MX
open Go Go.Proofs
set_option linter.unusedSimpArgs false
set_option linter.unusedVariables false
section
set_option maxHeartbeats 1000000
def L5(w w':Wk):Prop:=∃nw:List Msg,w'.sd=w.sd++nw∧w'.s.key=w.s.key+nw.length∧(∀i,(hi:i<nw.length)→nw[i].key=w.s.key+i)∧w'.s.O.Sublist (w.s.O++nw)
section
variable{w w1 w2 w':Wk}{U:List Unt}{ss:List Sup}{ps:List Pol}
theorem L5.same(h1:w'.sd=w.sd)(h2:w'.s.key=w.s.key)(h3:w'.s.O.Sublist w.s.O):L5 w w':=⟨[],by simp[h1],by simp[h2],fun i hi=>absurd hi (by simp),by simpa using h3⟩
theorem L5.refl(w:Wk):L5 w w:= .same rfl rfl (List.Sublist.refl _)
theorem L5.trans(a:L5 w w1)(b:L5 w1 w2):L5 w w2:=by
 obtain⟨n1,a1,a2,a3,a4⟩:=a
 obtain⟨n2,b1,b2,b3,b4⟩:=b
 refine⟨n1++n2,by rw[b1,a1,l_q],by rw[b2,a2,l_m];omega,fun i hi=> ?_,?_⟩
 ·rw[l_m]at hi
  by_cases hc:i<n1.length
  ·rw[List.getElem_append_left hc];exact a3 i hc
  ·rw[List.getElem_append_right (by omega),b3 _ (by omega),a2];omega
 ·rw[←l_q]
  exact b4.trans (List.Sublist.append_right a4 n2)
theorem a2z(w:Wk)(k n v:Int):L5 w (I4 w k n v):=⟨[⟨w.s.key,k,n,v,1,w.s.now+1⟩],rfl,rfl,fun i hi=>by
 obtain rfl:i=0:=by simp at hi;omega
 simp,List.Sublist.refl _⟩
theorem L6(w:Wk)(i:Nat)(r:Ret):L5 w (w.put i r):= .same rfl rfl (List.Sublist.refl _)
theorem a0O(w:Wk)(n to:Int):L5 w (w.mv n to):= .same rfl rfl (List.Sublist.refl _)
theorem a1M(w:Wk)(i:Nat):L5 w (j5 w i):=by
 unfold j5
 split
 ·exact .same rfl rfl (List.Sublist.refl _)
 ·exact .refl _
theorem a1m{num by_:Int}(h:M1 w num by_= .ok w'):L5 w w':=by
 unfold M1 at h
 split at h
 ·cases h
 ·rename_i r hr
  split at h
  ·cases h
  ·rename_i st hst
   cases h
   have g:=(L6 w (num-1).toNat {r with state:=st}).trans (a1M (w.put (num-1).toNat {r with state:=st}) (num-1).toNat)
   exact g.trans (.same rfl rfl List.filter_sublist)
theorem a5r{num by_:Int}(h:H3 w num by_= .ok w'):L5 w w':=by
 unfold H3 at h
 split at h
 ·cases h
 ·split at h
  ·cases h
  ·cases h;exact L6 _ _ _
theorem a7q(us:List Int)(to:Int):∀w:Wk,L5 w (t7 w us to):=by
 induction us with
 |nil=>exact fun w=> .refl _
 |cons u us ih=>exact fun w=>(a0O w u to).trans (ih _)
theorem b6M{num:Int}(h:a2L w num= .ok w'):L5 w w':=by
 obtain⟨w1,h1,h2⟩:=T5 h
 cases h2
 exact((a5r h1).trans (a7q _ _ _)).trans (.same rfl rfl (List.Sublist.refl _))
theorem b0i{num:Int}(h:O4 w num= .ok w'):L5 w w':=by
 obtain⟨w1,h1,h2⟩:=T5 h
 cases h2
 exact((a5r h1).trans (a7q _ _ _)).trans (.same rfl rfl (List.Sublist.refl _))
theorem a3d{a b sum:Int}(h:Q5 w a b sum= .ok w'):L5 w w':=by
 obtain⟨l,_,rfl⟩:=u4 h
 exact .same rfl rfl (List.Sublist.refl _)
theorem a5U{i:Nat}{sum:Int}(h:X0 w i sum= .ok w'):L5 w w':=(L6 _ _ _).trans (a3d h)
theorem a4B{i:Nat}{sum:Int}(h:R9 w i sum= .ok w'):L5 w w':=by
 unfold R9 at h
 split at h
 ·cases h;exact .refl _
 ·split at h
  ·exact a5U h
  ·cases h;exact a2z _ _ _ _
theorem a7p(w:Wk)(i:Nat):L5 w (y8 w i):=by
 unfold y8
 split
 ·exact L6 _ _ _
 ·exact .refl _
theorem a2A{i:Nat}{by_:Int}(h:G5 ss w i by_= .ok w'):L5 w w':=by
 unfold G5 at h
 split at h
 ·cases h
 ·obtain⟨w1,h1,h⟩:=T5 h
  have g1:=(L6 w i _).trans (a3d h1)
  obtain⟨w2,h2,rfl⟩:=u4 h
  refine(g1.trans ?_).trans (a7p _ _)
  split at h2
  ·split at h2
   ·exact(a1M _ _).trans (a4B h2)
   ·exact(a2z _ _ _ _).trans (a4B h2)
  ·exact a4B h2
theorem a5V(w:Wk)(i:Nat):∀j,L5 w (u7 U w i j)
 |0=> .refl _
 |j+1=>((a5V w i j).trans (a0O _ _ _)).trans (L6 _ _ _)
theorem b9a{num:Int}(h:a1I ss U w num= .ok w'):L5 w w':=by
 unfold a1I at h
 split at h
 ·cases h
 ·split at h
  ·exact(a5V w _ _).trans (a2A h)
  ·split at h
   ·exact a1m h
   ·cases h;exact .refl _
theorem a3c{α:Type}{f:Wk→α→Except Int Wk}(hf:∀{w w':Wk}{x:α},f w x= .ok w'→L5 w w'):∀{l:List α}{w w':Wk},M5 f w l= .ok w'→L5 w w'
 | [],w,w',h=>by cases h;exact .refl _
 |x::l,w,w',h=>by
  obtain⟨w1,h1,h2⟩:=T5 h
  exact(hf h1).trans (a3c hf h2)
theorem b3s{key:Int}{yes:Bool}(h:Z3 ss w key yes= .ok w'):∃(j:Nat) (hj:j<w.s.O.length),w.s.O[j].key=key∧L5 {w with s:={w.s with O:=w.s.O.take j++w.s.O.drop (j+1)} } w':=by
 unfold Z3 at h
 split at h
 ·cases h
 ·rename_i j hj
  rw[a8w]at hj
  obtain⟨hjl,hk,_⟩:=hj
  refine⟨j,hjl,by simpa using hk,?_⟩
  simp only at h
  split at h
  ·cases h
  ·split at h
   ·exact a1m h
   ·obtain⟨w2,h2,rfl⟩:=u4 h
    refine L5.trans ?_ (a7p _ _)
    split at h2
    ·exact a5r h2
    ·split at h2
     ·unfold a0T at h2
      split at h2
      ·exact(L6 _ _ _).trans (a3d h2)
      ·exact a5U h2
     ·split at h2
      ·unfold I6 at h2
       simp only at h2
       split at h2
       ·split at h2
        ·exact((L6 _ _ _).trans (a0O _ _ _)).trans (a3d h2)
        ·cases h2
       ·exact(a1M _ _).trans (a4B h2)
      ·split at h2
       ·cases h2;exact a0O _ _ _
       ·cases h2
theorem b3r{c:Cmd}(h:T8 ps ss U w c= .ok w'):L5 w w':=by
 unfold T8 at h
 split at h
 ·cases h
 ·split at h
  ·cases h
  ·split at h
   ·cases h
   ·split at h
    ·cases h
    ·unfold a0Z at h
     simp only at h
     by_cases ht:(C8 ps (j9 U c.unit).cat).gto c.grade≠0
     ·simp only[if_pos ht]at h
      split at h
      ·cases h
       exact(L6 _ _ _).trans (a0O _ _ _)
      ·exact((L6 _ _ _).trans (a0O _ _ _)).trans (a2A h)
     ·simp only[if_neg ht]at h
      split at h
      ·cases h
       exact((L6 _ _ _).trans (a0O _ _ _)).trans (a2z _ _ _ _)
      ·exact(((L6 _ _ _).trans (a0O _ _ _)).trans (a2z _ _ _ _)).trans (a2A h)
theorem b0j{os:List Odr}{c:Cmd}{x:Int×Wk}(h:E5 ps os ss U w c= .ok x):L5 w x.2:=by
 unfold E5 at h
 split at h
 ·cases h
 ·split at h
  ·cases h
  ·split at h
   ·cases h
   ·obtain⟨y,h3,rfl⟩:=u4 h
    have g:L5 w y.2:=by
     unfold X1 at h3
     split at h3
     ·cases h3;exact .refl _
     ·split at h3
      ·cases h3
      ·split at h3
       ·cases h3
       ·cases h3;exact .same rfl rfl (List.Sublist.refl _)
    exact(g.trans (.same (w':={y.2 with s:={y.2.s with R:=_,T:=_} }) rfl rfl (List.Sublist.refl _))).trans (a2z _ _ _ _)
def a6J(s:Sag):Prop:=(∀m∈s.O,m.key<s.key)∧s.O.Pairwise (fun a b=>a.key≠b.key)
theorem a9c(g:L5 w w')(h:a6J w.s):a6J w'.s:=by
 obtain⟨nw,_,hk,hn,hs⟩:=g
 have hnm:∀m∈nw,w.s.key≤m.key∧m.key<w'.s.key:=fun m hm=>by
  obtain⟨i,hi,rfl⟩:=R7 hm
  rw[hn i hi,hk]
  omega
 refine⟨fun m hm=> ?_,List.Pairwise.sublist hs ?_⟩
 ·rcases List.mem_append.1 (hs.subset hm)with h1|h1
  ·have:=h.1 m h1;rw[hk];omega
  ·exact(hnm m h1).2
 ·rw[a1o]
  refine⟨h.2,?_,fun a ha b hb=> ?_⟩
  ·rw[List.pairwise_iff_getElem]
   intro i j hi hj hij
   rw[hn i hi,hn j hj]
   omega
  ·have:=h.1 a ha
   have:=(hnm b hb).1
   omega
end
end
section
set_option maxHeartbeats 16000000
theorem a0c(st by_:Int)(hb:by_=2∨by_=3∨by_=7∨by_=9)(h:c9):d8 Tryz.prog 99 [.int .i64 st,.int .i64 by_] h fun v h'=>v= .int .i64 ((E4 st by_).getD 0)∧h'=h:=by
 have hs:st=1∨st=2∨st=3∨(¬st=1∧¬st=2∧¬st=3):=by omega
 rcases hb with rfl|rfl|rfl|rfl<;>rcases hs with rfl|rfl|rfl|hs
 all_goals
  refine EN i99.eq_1 fun K hK=>Wa ?_
  first|(refine Wb hs ?_)|(refine Wa ?_)
  exact hK _ _ ⟨by first|rfl|simp[E4,hs],rfl⟩
theorem b9N(st b:Int)(hb:b=7∨b=9):(E4 st b).getD 0=if st=1∨st=2 then b else 0:=by
 rcases hb with rfl|rfl<;>(by_cases h:st=1∨st=2<;>simp[E4,h])
theorem nx_2(st:Int):(E4 st 2).getD 0=if st=2 then 3 else 0:=by
 by_cases h:st=2<;>simp[E4,h]
theorem nx_3(st:Int):(E4 st 3).getD 0=if st=3 then 4 else 0:=by
 by_cases h:st=3<;>simp[E4,h]
theorem b9l{pr n:Int}(hp:0≤pr):∀{O:List Msg},(∀m∈O,m.kind=2→0≤m.value)→∀x∈O,x.rma=n→x.kind=2→x.value≤N8 pr n O
 | [],_,x,hx,_,_=>absurd hx (by simp)
 |m::O,h,x,hx,h1,h2=>by
  have hd:N8 pr n (m::O)=a1H pr n m+N8 pr n O:=by simp[N8]
  have h0:0≤a1H pr n m:=by
   unfold a1H
   have:=h m (by simp)
   (repeat' split)<;>first|omega|(rename_i a b;exact this b)
  rw[hd]
  rcases List.mem_cons.1 hx with rfl|hx
  ·have:=b3m (n:=n) hp (O:=O) fun y hy=>h y (by simp[hy])
   have e:a1H pr n x=x.value:=by unfold a1H;rw[if_pos h1,if_pos h2]
   omega
  ·have:=b9l hp (O:=O) (fun y hy=>h y (by simp[hy])) x hx h1 h2
   omega
theorem c4N{D:Cfg}{U:List Unt}{w:Wk}{m:Nat}(hD:Stc D U)(I:Inv D U w 1000 0)(Wf:w.wf U m){x:Msg}(hx:x∈w.s.O)(h2:x.kind=2):0≤x.value∧x.value≤858993459200:=by
 have hI:=I.msg x hx
 obtain⟨i,hi⟩:∃i:Nat,x.rma=(i:Int)+1:=⟨(x.rma-1).toNat,by have:=hI.rma;omega⟩
 have hil:i<w.s.R.length:=by have:=hI.rma;omega
 have hk:=hI.k2 h2
 rw[hi,show((i:Int)+1-1).toNat=i by omega]at hk
 have hm:=I.mon i hil (.inl hk.1)
 have hr:=I.ret i hil
 have hw:=I7 hD hr (Wf.len _ (C5 hil))
 have hp:=hr.pos
 have hl:=b9l (a5F hD (w.R i)).1 (fun y hy hk=>by have:=((I.msg y hy).k2 hk).2;omega) x hx hi h2
 unfold tol at hm
 split at hm<;>omega
theorem b0N(T:List Tm)(n:Int):without (without T n) n=without T n:=by
 unfold without
 rw[List.filter_filter]
 congr 1
 funext x
 simp
theorem c0y(w:Wk)(n d:Int):a2Q (S7 w n) n d=a2Q w n d:=by
 unfold a2Q S7 setT
 simp only[b0N]
def c5q(h0:c9)(L:V3)(C:Cfg)(u:Value)(l:List HP)(x:Except Int (Int×List Msg×Wk))(v:Value)(h':c9):Prop:=match x with
 | .error e=>e≠0∧(∃a b,v= .tuple #[a,b,.int .i64 e])∧St h0 h' l
 | .ok y=>∃s,v= .tuple #[.int .i64 y.1,s,.int .i64 0]∧∃A c,St h0 h' (i4 Msg.enc 6 127 s y.2.1::n9 {L with A:=A,c:=c} C u y.2.2::l)
theorem a5y(us:List Int)(to:Int)(w:Wk):(t7 w us to).s.R=w.s.R:=by rw[K2]
theorem a6w(us:List Int)(to:Int)(w:Wk)(i:Nat):(t7 w us to).R i=w.R i:=by unfold Wk.R;rw[a5y]
section
variable{h0 h:c9}{l:List HP}{L:V3}{C:Cfg}{w:Wk}{U:List Unt}{m n b i:Nat}{Au:Option Addr}{cu:Nat}
theorem c3P(x:j0)(hc:∀h',St h0 h' l→C.rd h')(hu:∀h',St h0 h' l→Arr Unt.enc 4 h' Au U)(hx:∀h',St h0 h' l→Arr i6 1 h' x.A x.c.us)(hD:Stc C U)(hf:x.c.formed)(I:Inv C U w 1000 0)(hkd:w.s.O.Pairwise fun a b=>a.key≠b.key)(S:St h0 h (n9 L C (.slice Au U.length cu) w::l))(W:w.wf U m)(hm:m<100000):
  d8 Tryz.prog 49 [.pointer (some ⟨L.p,0,none⟩),.agg x.enc.toArray] h fun v h'=>c5q h0 L C (.slice Au U.length cu) l (doQ C U w x.c) v h':=by
 have hul:=hD.ul
 have hrl:=W.rl
 have hnow:=W.now
 have B:=b4A hD I (Int.le_refl 0) W
 have hst:∀r∈w.s.R,1≤r.state∧r.state≤9:=fun r hr=>by
  obtain⟨i,hi,rfl⟩:=R7 hr
  have:=(I.ret i hi).st
  rwa[show w.R i=w.s.R[i] by unfold Wk.R;rw[l_s,l_r hi];rfl]at this
 have hnn:∀r∈w.s.R,1≤r.num:=fun r hr=>by
  obtain⟨i,hi,rfl⟩:=R7 hr
  have:=(I.ret i hi).num
  rw[show w.R i=w.s.R[i] by unfold Wk.R;rw[l_s,l_r hi];rfl]at this
  omega
 obtain⟨dq,hdq⟩:∃dq,dq=doQ C U w x.c:=⟨_,rfl⟩
 rw[←hdq]
 unfold doQ at hdq
 have hfit:=hf.1
 unfold Cmd.fits at hfit
 refine EN i49.eq_1 fun K hK=>Wa ?_
 (revert S;(try clear F);refine AL fun g h S F=> ?_)
 have S:St h0 h (n9 L C (.slice Au U.length cu) w::d9 g x.enc 44::l):=S.p1
 have F:∀off,rd1 h (.pointer (some ⟨g,off,none⟩))=x.enc[off]? :=fun off=>j3 S.p1.blk
 have FN:rdN h g 0 12=some x.enc:=v8 S.p1.blk (l_a rfl)
 by_cases k1:x.c.kind=1
 ·rw[if_pos k1]at hdq hfit
  (try simp(disch:=first|omega|assumption|exact l_a rfl) only[go_sem,↓wBk,simprocAttr,F,j0.enc,eq_true k1,FN])
  refine cI (b2s x (fun h' S=>hc _ S.tl) (fun h' S=>hu _ S.tl) (fun h' S=>hx _ S.tl) ⟨hfit.1.1,by omega⟩ hD ⟨hfit.2.1.1,hfit.2.2.1.1,hfit.2.2.2.1.1,fun u hu=>(hfit.2.2.2.2 u hu).1⟩ S W (by omega) hst hnn) ?_
  clear S F FN
  cases hrq:E5 C.ps C.os C.ss U w x.c with
  |error e=>
   rw[hrq]at hdq
   rw[hdq]at hK
   rintro _ h ⟨he,rfl,S⟩
   refine Wa ?_
   exact hK _ _ ⟨he,⟨_,_,rfl⟩,S.tl⟩
  |ok y=>
   rw[hrq]at hdq
   rw[hdq]at hK
   rintro _ h ⟨rfl,A,c,S⟩
   refine Wa ?_
   exact hK _ _ ⟨_,rfl,A,c,S.d1.nilS⟩
 rw[if_neg k1]at hdq hfit
 by_cases k7:x.c.kind=7
 ·rw[if_pos k7]at hdq
  by_cases d1:x.c.days<1
  ·rw[if_pos (.inl d1)]at hdq
   rw[hdq]at hK
   refine We F @j0.enc.eq_1 k7 d1 ?_
   exact hK _ _ ⟨by decide,⟨_,_,rfl⟩,S.tl.tl⟩
  by_cases d2:1000<x.c.days
  ·rw[if_pos (.inr d2)]at hdq
   rw[hdq]at hK
   refine Wf F @j0.enc.eq_1 k7 d1 d2 ?_
   exact hK _ _ ⟨by decide,⟨_,_,rfl⟩,S.tl.tl⟩
  rw[if_neg (fun h=>h.elim d1 d2)]at hdq
  have F14:=S.mrNow
  by_cases d3:100000<w.s.now+x.c.days
  ·rw[if_pos d3]at hdq
   rw[hdq]at hK
   refine Wf F @j0.enc.eq_1 k7 d1 d2 ?_
   refine dE ?_
   refine We F @j0.enc.eq_1 @F14 d3 ?_
   exact hK _ _ ⟨by decide,⟨_,_,rfl⟩,S.tl.tl⟩
  rw[if_neg d3]at hdq
  rw[hdq]at hK
  refine Wf F @j0.enc.eq_1 k7 d1 d2 ?_
  refine dE ?_
  refine We F @j0.enc.eq_1 @F14 d3 ?_
  refine cI (c0K x.c.days (fun h' S=>hc _ S.tl) (fun h' S=>hu _ S.tl) hD I S W hm (by omega) (by omega)) ?_
  clear S F FN F14
  intro v h S
  refine Wa ?_
  exact hK _ _ ⟨_,rfl,L.A,L.c,S.p2.tl⟩
 rw[if_neg k7]at hdq
 by_cases k8:x.c.kind=8
 ·rw[if_pos k8]at hdq
  refine Wd F @j0.enc.eq_1 k8 ?_
  refine cI (b7m x.c.key x.c.yes (fun h' S=>hc _ S.tl) hD S W (by omega) B (by omega) hkd (fun y hy=>⟨(I.msg y hy).rma,(I.msg y hy).kind,fun h2=>by have:=c4N hD I W hy h2;omega⟩) (fun i hi=>(I.ret i hi).num)) ?_
  clear S F FN
  have hrq:b3R C.ss w x.c.key x.c.yes=match w.s.O.findIdx? fun m=>decide (m.key=x.c.key)with
   |none=> .error 16
   |some k=> .ok (T9 C.ss {w with s:={w.s with O:=w.s.O.take k++w.s.O.drop (k+1)} } (w.s.O.getD k Msg.zero) x.c.yes):=rfl
  rw[hrq]
  clear hrq
  cases hfd:w.s.O.findIdx? fun m=>decide (m.key=x.c.key)with
  |none=>
   rw[hfd]at hdq
   simp only at hdq
   rw[hdq]at hK
   rintro _ h ⟨he,rfl,S⟩
   refine Wa ?_
   exact hK _ _ ⟨he,⟨_,_,rfl⟩,S.tl⟩
  |some k=>
   rw[hfd]at hdq
   simp only at hdq
   rw[hdq]at hK
   rintro _ h ⟨rfl,S⟩
   refine Wa ?_
   exact hK _ _ ⟨_,rfl,L.A,L.c,S.d1.nilS⟩
 rw[if_neg k8]at hdq
 have hk:x.c.kind=2∨x.c.kind=3∨x.c.kind=4∨x.c.kind=5∨x.c.kind=6:=by
  by_cases a:2≤x.c.kind∧x.c.kind≤5
  ·omega
  ·rw[if_neg a]at hfit
   by_cases b:x.c.kind=6
   ·omega
   ·rw[if_neg b,if_neg k7,if_neg k8]at hfit
    exact hfit.elim
 have FR:=S.mrR
 unfold onR at hdq
 by_cases r1:x.c.rma<1
 ·rw[if_pos (.inl r1)]at hdq
  rw[hdq]at hK
  refine Wf F @j0.enc.eq_1 k1 k7 k8 ?_
  refine dE ?_
  refine Wd F @j0.enc.eq_1 r1 ?_
  exact hK _ _ ⟨by decide,⟨_,_,rfl⟩,S.tl.tl⟩
 by_cases r2:w.s.R.length<x.c.rma
 ·rw[if_pos (.inr r2)]at hdq
  rw[hdq]at hK
  refine Wf F @j0.enc.eq_1 k1 k7 k8 ?_
  refine dE ?_
  refine Wf F @j0.enc.eq_1 r1 @FR r2 ?_
  exact hK _ _ ⟨by decide,⟨_,_,rfl⟩,S.tl.tl⟩
 rw[if_neg (fun h=>h.elim r1 r2)]at hdq
 obtain⟨i,hi⟩:∃i:Nat,x.c.rma=(i:Int)+1:=⟨(x.c.rma-1).toNat,by omega⟩
 have hil:i<w.s.R.length:=by omega
 have hri':(i:Int)+1-1=(i:Int):=by omega
 have e:(x.c.rma-1).toNat=i:=by omega
 rw[e]at hdq
 clear e
 dsimp only at hdq
 obtain⟨b,hA⟩:∃b,L.A=some ⟨b,0,none⟩:=by
  obtain⟨k,t,o,sd,vs,hv,S⟩:=St.mo.1 S
  exact(St.p4 S).ownAt (by rw[←l_z (f:=i0.r),hv];omega)
 rw[hA]at FR
 have q6:rd1 h (.pointer (some ⟨b,i*14+6,none⟩))=some (.int .i64 (w.R i).state):=S.mrRet hA hil (j:=6) (by omega) (by omega)
 have hnm:=(I.ret i hil).num
 have hss:=(I.ret i hil).st
 have r1':¬(i:Int)+1<1:=by omega
 have r2':¬(w.s.R.length:Int)<(i:Int)+1:=by omega
 rcases hk with k2|k2|k2|k2|k2
 ·rw[if_pos (show x.c.kind=2∨x.c.kind=3 from .inl k2)]at hdq
  rw[if_neg (show ¬x.c.kind=3 by omega)]at hdq
  refine Wd F @j0.enc.eq_1 k2 ?_
  refine dE ?_
  refine Wh F @j0.enc.eq_1 k2 hi r1' @FR r2' ?_
  refine dE ?_
  refine Wh F @j0.enc.eq_1 k2 hi @FR hri' q6 ?_
  refine cI (a0c (w.R i).state 9 (by decide) _) ?_
  rintro _ h ⟨rfl,rfl⟩
  rw[b9N _ 9 (by decide)]
  by_cases d:(w.R i).state=1∨(w.R i).state=2
  ·rw[if_pos d]at hdq⊢
   rw[hdq]at hK
   refine Wa ?_
   refine cV (a4s 9 S W hul (by omega) hA hil hnm) ?_
   clear S F FN FR q6
   intro h S
   refine Wa ?_
   exact hK _ _ ⟨_,rfl,L.A,L.c,S.d1.nilS⟩
  ·rw[if_neg d]at hdq⊢
   rw[hdq]at hK
   refine Wa ?_
   exact hK _ _ ⟨by decide,⟨_,_,rfl⟩,S.tl.tl⟩
 ·rw[if_pos (show x.c.kind=2∨x.c.kind=3 from .inr k2)]at hdq
  rw[if_pos k2]at hdq
  refine Wd F @j0.enc.eq_1 k2 ?_
  refine dE ?_
  refine Wh F @j0.enc.eq_1 k2 hi r1' @FR r2' ?_
  refine dE ?_
  refine Wh F @j0.enc.eq_1 k2 hi @FR hri' q6 ?_
  refine cI (a0c (w.R i).state 7 (by decide) _) ?_
  rintro _ h ⟨rfl,rfl⟩
  rw[b9N _ 7 (by decide)]
  by_cases d:(w.R i).state=1∨(w.R i).state=2
  ·rw[if_pos d]at hdq⊢
   rw[hdq]at hK
   refine Wa ?_
   refine cV (a4s 7 S W hul (by omega) hA hil hnm) ?_
   clear S F FN FR q6
   intro h S
   refine Wa ?_
   exact hK _ _ ⟨_,rfl,L.A,L.c,S.d1.nilS⟩
  ·rw[if_neg d]at hdq⊢
   rw[hdq]at hK
   refine Wa ?_
   exact hK _ _ ⟨by decide,⟨_,_,rfl⟩,S.tl.tl⟩
 ·rw[if_neg (show ¬(x.c.kind=2∨x.c.kind=3) by omega),if_pos k2]at hdq
  refine Wd F @j0.enc.eq_1 k2 ?_
  refine dE ?_
  refine Wh F @j0.enc.eq_1 k2 hi r1' @FR r2' ?_
  refine dE ?_
  refine Wh F @j0.enc.eq_1 k2 hi @FR hri' q6 ?_
  refine cI (a0c (w.R i).state 2 (by decide) _) ?_
  rintro _ h ⟨rfl,rfl⟩
  rw[nx_2]
  by_cases d:(w.R i).state=2
  ·rw[if_pos d]at hdq⊢
   rw[hdq]at hK
   rw[d]at q6
   refine Wb q6 ?_
   refine cI (a0c 2 2 (by decide) _) ?_
   rintro _ h ⟨rfl,rfl⟩
   have hnx:(E4 2 2).getD 0=3:=rfl
   rw[hnx]
   refine Wa ?_
   refine L8 (r':={w.R i with state:=3}) S hA hil (j:=6) (by omega) rfl rfl rfl (fun x hx=>by rw[i0.enc,i0.enc,hx];rfl) ?_
   clear S F FN FR q6
   intro h S
   have W1:(w.put i {w.R i with state:=3}).wf U m:=W.putR hil rfl rfl
   have hi1:i<(w.put i {w.R i with state:=3}).s.R.length:=by rw[o7];exact hil
   have hu1:((w.put i {w.R i with state:=3}).R i).us=(w.R i).us:=by rw[E0 hil]
   have hn1:((w.put i {w.R i with state:=3}).R i).num=i+1:=by rw[E0 hil];exact hnm
   have hdef:a7N w i=(fun v=>a2Q v (i+1) (w.s.now+30)) (t7 (w.put i {w.R i with state:=3}) (w.R i).us 1):=rfl
   rw[hdef]at hK
   clear hdef
   have hT1:(w.put i {w.R i with state:=3}).s.now=w.s.now:=rfl
   generalize w.put i {w.R i with state:=3}=w1 at*
   have hlen:=(W.len _ (C5 hil)).1
   obtain⟨A8,c8,q8,-⟩:=S.mrUs hA hi1
   rw[hu1]at q8
   refine Wb q8 ?_
   refine LKp (Nat.zero_add 0) [0,3,9,122] (fun ρ h'=>∃j:Nat,ρ 123= .int .i64 j∧j≤(w.R i).us.length∧St h0 h' (n9 L C (.slice Au U.length cu) (t7 w1 ((w.R i).us.take j) 1)::d9 g x.enc 44::l)) (fun ρ _=>(w.R i).us.length-(iv (ρ 123)).toNat) ?_ ?_
   ·refine Wa ?_
    exact⟨0,rfl,by omega,S⟩
   clear S q8
   rintro ρ h J ⟨e0,e3,e9,e122⟩ hJ ⟨j,e123,hj,S⟩
   refine Wc e122 e123 ?_
   refine cD (fun hlt=> ?_) (fun hlt=> ?_)
   ·have hjl:j<(w.R i).us.length:=by omega
    have hRj:(t7 w1 ((w.R i).us.take j) 1).s.R=w1.s.R:=a5y _ _ _
    have hij:i<(t7 w1 ((w.R i).us.take j) 1).s.R.length:=by rw[hRj];exact hi1
    have huj:((t7 w1 ((w.R i).us.take j) 1).R i).us=(w.R i).us:=by rw[a6w];exact hu1
    obtain⟨Wj,-⟩:=Y2 ((w.R i).us.take j) 1 W1
    have hklj:=Wj.kl
    have hstep:t7 w1 ((w.R i).us.take (j+1)) 1=(t7 w1 ((w.R i).us.take j) 1).mv (w.R i).us[j] 1:=by
     unfold t7
     rw[l_t hjl,List.foldl_append]
     rfl
    obtain⟨A8,c8,q8,h8⟩:=S.mrUs hA hij
    rw[huj]at q8 h8
    obtain⟨b8,o8,hA8,q9⟩:=h8.at hjl
    rw[hA8]at q8
    have q9:=rP0 q9 (by omega)
    simp only[i6,l_o,m9]at q9
    have F:∀off,rd1 h (.pointer (some ⟨g,off,none⟩))=x.enc[off]? :=fun off=>j3 S.p1.blk
    refine Wa ?_
    refine dE ?_
    refine Wi e0 e3 e9 e123 q8 q9 F (Pd @j0.enc.eq_1 k2 @m9) ?_
    refine cV (Q3 (w.R i).us[j] 1 S (by omega)) ?_
    clear S q8 q9 h8 F
    intro h S
    refine Wb e123 ?_
    refine hJ _ _ ?_ ?_
    ·refine Wa ?_
     exact⟨j+1,rfl,by omega,by rw[hstep];exact S⟩
    ·refine Wb e123 ?_
     omega
   obtain rfl:j=(w.R i).us.length:=by omega
   rw[C9]at S
   obtain⟨Wv,hRv⟩:=Y2 (w.R i).us 1 W1
   have hiv:i<(t7 w1 (w.R i).us 1).s.R.length:=by rw[hRv];exact hi1
   have hnv:((t7 w1 (w.R i).us 1).R i).num=i+1:=by rw[a6w];exact hn1
   have hnw:(t7 w1 (w.R i).us 1).s.now=w.s.now:=by rw[K2];exact hT1
   generalize t7 w1 (w.R i).us 1=v at*
   have hlv:=Wv.tl
   have hgv:=Wv.tg
   have q0:rd1 h (.pointer (some ⟨b,i*14+0,none⟩))=some (.int .i64 ((i:Int)+1)):=by rw[←hnv];exact S.mrRet hA hiv (j:=0) (by omega) (by omega)
   rw[H8]at q0
   refine Wd e0 e9 q0 ?_
   refine cV (a2T ((i:Int)+1) S (by omega)) ?_
   clear S q0
   intro h S
   have F14:=S.mrNow
   have F:∀off,rd1 h (.pointer (some ⟨g,off,none⟩))=x.enc[off]? :=fun off=>j3 S.p1.blk
   have q0:rd1 h (.pointer (some ⟨b,i*14+0,none⟩))=some (.int .i64 ((i:Int)+1)):=by rw[←hnv];exact S.mrRet hA hiv (j:=0) (by omega) (by omega)
   rw[H8]at q0
   have F14:rd1 h (.pointer (some ⟨L.p,14,none⟩))=some (.int .i64 w.s.now):=by rw[←hnw];exact F14
   refine We e3 F @j0.enc.eq_1 k2 ?_
   refine dE ?_
   refine We e0 e9 @F14 q0 ?_
   refine cV (b5z ((i:Int)+1) (w.s.now+30) S (T7 hgv _) (by have:=hlv;show(without v.s.T _).length<_;exact Nat.lt_of_le_of_lt (List.length_filter_le _ _) (by omega))) ?_
   clear S F F14 q0
   intro h S
   rw[c0y]at S
   refine Wa ?_
   exact hK _ _ ⟨_,rfl,L.A,L.c,S.d1.nilS⟩
  ·rw[if_neg d]at hdq⊢
   rw[hdq]at hK
   refine Wa ?_
   exact hK _ _ ⟨by decide,⟨_,_,rfl⟩,S.tl.tl⟩
 ·rw[if_neg (show ¬(x.c.kind=2∨x.c.kind=3) by omega),if_neg (show ¬x.c.kind=4 by omega),if_pos k2]at hdq
  refine Wd F @j0.enc.eq_1 k2 ?_
  refine dE ?_
  refine Wh F @j0.enc.eq_1 k2 hi r1' @FR r2' ?_
  refine dE ?_
  refine Wh F @j0.enc.eq_1 k2 hi @FR hri' q6 ?_
  refine cI (a0c (w.R i).state 3 (by decide) _) ?_
  rintro _ h ⟨rfl,rfl⟩
  rw[nx_3]
  by_cases d:(w.R i).state=3
  ·rw[if_pos d]at hdq⊢
   rw[hdq]at hK
   rw[d]at q6
   refine Wb q6 ?_
   refine cI (a0c 3 3 (by decide) _) ?_
   rintro _ h ⟨rfl,rfl⟩
   have hnx:(E4 3 3).getD 0=4:=rfl
   rw[hnx]
   refine Wa ?_
   refine L8 (r':={w.R i with state:=4}) S hA hil (j:=6) (by omega) rfl rfl rfl (fun x hx=>by rw[i0.enc,i0.enc,hx];rfl) ?_
   clear S F FN FR q6
   intro h S
   have W1:(w.put i {w.R i with state:=4}).wf U m:=W.putR hil rfl rfl
   have hi1:i<(w.put i {w.R i with state:=4}).s.R.length:=by rw[o7];exact hil
   have hu1:((w.put i {w.R i with state:=4}).R i).us=(w.R i).us:=by rw[E0 hil]
   have hn1:((w.put i {w.R i with state:=4}).R i).num=i+1:=by rw[E0 hil];exact hnm
   have hdef:a0B w i=(fun v=>S7 v (i+1)) (t7 (w.put i {w.R i with state:=4}) (w.R i).us 2):=rfl
   rw[hdef]at hK
   clear hdef
   have hT1:(w.put i {w.R i with state:=4}).s.now=w.s.now:=rfl
   generalize w.put i {w.R i with state:=4}=w1 at*
   have hlen:=(W.len _ (C5 hil)).1
   obtain⟨A8,c8,q8,-⟩:=S.mrUs hA hi1
   rw[hu1]at q8
   refine Wb q8 ?_
   refine LKp (Nat.zero_add 0) [0,3,9,122] (fun ρ h'=>∃j:Nat,ρ 123= .int .i64 j∧j≤(w.R i).us.length∧St h0 h' (n9 L C (.slice Au U.length cu) (t7 w1 ((w.R i).us.take j) 2)::d9 g x.enc 44::l)) (fun ρ _=>(w.R i).us.length-(iv (ρ 123)).toNat) ?_ ?_
   ·refine Wa ?_
    exact⟨0,rfl,by omega,S⟩
   clear S q8
   rintro ρ h J ⟨e0,e3,e9,e122⟩ hJ ⟨j,e123,hj,S⟩
   refine Wc e122 e123 ?_
   refine cD (fun hlt=> ?_) (fun hlt=> ?_)
   ·have hjl:j<(w.R i).us.length:=by omega
    have hRj:(t7 w1 ((w.R i).us.take j) 2).s.R=w1.s.R:=a5y _ _ _
    have hij:i<(t7 w1 ((w.R i).us.take j) 2).s.R.length:=by rw[hRj];exact hi1
    have huj:((t7 w1 ((w.R i).us.take j) 2).R i).us=(w.R i).us:=by rw[a6w];exact hu1
    obtain⟨Wj,-⟩:=Y2 ((w.R i).us.take j) 2 W1
    have hklj:=Wj.kl
    have hstep:t7 w1 ((w.R i).us.take (j+1)) 2=(t7 w1 ((w.R i).us.take j) 2).mv (w.R i).us[j] 2:=by
     unfold t7
     rw[l_t hjl,List.foldl_append]
     rfl
    obtain⟨A8,c8,q8,h8⟩:=S.mrUs hA hij
    rw[huj]at q8 h8
    obtain⟨b8,o8,hA8,q9⟩:=h8.at hjl
    rw[hA8]at q8
    have q9:=rP0 q9 (by omega)
    simp only[i6,l_o,m9]at q9
    have F:∀off,rd1 h (.pointer (some ⟨g,off,none⟩))=x.enc[off]? :=fun off=>j3 S.p1.blk
    refine Wa ?_
    refine dE ?_
    refine Wi e0 e3 e9 e123 q8 q9 F (Pd @j0.enc.eq_1 k2 @m9) ?_
    refine cV (Q3 (w.R i).us[j] 2 S (by omega)) ?_
    clear S q8 q9 h8 F
    intro h S
    refine Wb e123 ?_
    refine hJ _ _ ?_ ?_
    ·refine Wa ?_
     exact⟨j+1,rfl,by omega,by rw[hstep];exact S⟩
    ·refine Wb e123 ?_
     omega
   obtain rfl:j=(w.R i).us.length:=by omega
   rw[C9]at S
   obtain⟨Wv,hRv⟩:=Y2 (w.R i).us 2 W1
   have hiv:i<(t7 w1 (w.R i).us 2).s.R.length:=by rw[hRv];exact hi1
   have hnv:((t7 w1 (w.R i).us 2).R i).num=i+1:=by rw[a6w];exact hn1
   have hnw:(t7 w1 (w.R i).us 2).s.now=w.s.now:=by rw[K2];exact hT1
   generalize t7 w1 (w.R i).us 2=v at*
   have hlv:=Wv.tl
   have hgv:=Wv.tg
   have q0:rd1 h (.pointer (some ⟨b,i*14+0,none⟩))=some (.int .i64 ((i:Int)+1)):=by rw[←hnv];exact S.mrRet hA hiv (j:=0) (by omega) (by omega)
   rw[H8]at q0
   refine Wd e0 e9 q0 ?_
   refine cV (a2T ((i:Int)+1) S (by omega)) ?_
   clear S q0
   intro h S
   have F:∀off,rd1 h (.pointer (some ⟨g,off,none⟩))=x.enc[off]? :=fun off=>j3 S.p1.blk
   refine We e3 F @j0.enc.eq_1 k2 ?_
   exact hK _ _ ⟨_,rfl,L.A,L.c,S.d1.nilS⟩
  ·rw[if_neg d]at hdq⊢
   rw[hdq]at hK
   refine Wa ?_
   exact hK _ _ ⟨by decide,⟨_,_,rfl⟩,S.tl.tl⟩
 ·rw[if_neg (show ¬(x.c.kind=2∨x.c.kind=3) by omega),if_neg (show ¬x.c.kind=4 by omega),if_neg (show ¬x.c.kind=5 by omega)]at hdq
  have hg0:0≤x.c.grade:=by rw[if_neg (by omega),if_pos k2]at hfit;exact hfit.2.2.1
  have hI:=I.ret i hil
  have k3':¬x.c.kind=2:=by omega
  have k4':¬x.c.kind=3:=by omega
  have k5':¬x.c.kind=4:=by omega
  have k6':¬x.c.kind=5:=by omega
  refine Wf F @j0.enc.eq_1 k1 k7 k8 ?_
  refine dE ?_
  refine Wg F @j0.enc.eq_1 hi r1' @FR r2' ?_
  refine dE ?_
  (try simp(disch:=first|omega|assumption|exact l_a rfl) only[go_sem,↓wBk,simprocAttr,F,j0.enc,hi,FR,hri',k3',k4',k5',k6',eq_true k2])
  simp only[FN]
  (try simp(disch:=first|omega|assumption|exact l_a rfl) only[go_sem,↓wBk,simprocAttr,show x.enc.length=12 from rfl])
  refine cI (b6J x (fun h' S=>hc _ S.tl) (fun h' S=>hu _ S.tl) hD S W (by omega) B (by omega) hI.rea (I7 hD hI (W.len _ (C5 hil))) hg0 hA hil) ?_
  clear S F FN FR q6
  cases hrq:a7o C.ps C.ss U w x.c i with
  |error e=>
   rw[hrq]at hdq
   rw[hdq]at hK
   rintro _ h ⟨he,rfl,S⟩
   refine Wa ?_
   exact hK _ _ ⟨he,⟨_,_,rfl⟩,S.tl⟩
  |ok y=>
   rw[hrq]at hdq
   rw[hdq]at hK
   rintro _ h ⟨rfl,S⟩
   refine Wa ?_
   exact hK _ _ ⟨_,rfl,L.A,L.c,S.d1.nilS⟩
end
end
end Go.Proofs.YtjagmebglhbdkaaGreat.MX
