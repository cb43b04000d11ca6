import Derived.Test.YtjagmebglhbdkaaGreatK25
namespace Go.Proofs.YtjagmebglhbdkaaGreat.MX
open Go Go.Proofs
set_option linter.unusedSimpArgs false
set_option linter.unusedVariables false
theorem b4W(W:List Tm)(x:Tm):b3x W x=(W.takeWhile fun y=>decide (n7 y x))++x::W.dropWhile fun y=>decide (n7 y x):=by
 have h1:W.take (a8y W x)=W.takeWhile fun y=>decide (n7 y x):=(List.prefix_iff_eq_take.1 (List.takeWhile_prefix _)).symm
 have h2:W.drop (a8y W x)=W.dropWhile fun y=>decide (n7 y x):=by
  have h3:(W.takeWhile fun y=>decide (n7 y x))++(W.dropWhile fun y=>decide (n7 y x))=W:=List.takeWhile_append_dropWhile
  conv=>lhs;rw[←h3]
  unfold a8y
  rw[h3]
  conv=>lhs;arg 2;rw[←h3]
  rw[List.drop_left]
 unfold b3x
 rw[h1,h2]
theorem b4c{W:List Tm}{x y:Tm}(hy:y∈W.takeWhile fun y=>decide (n7 y x)):n7 y x:=by
 have:=List.all_takeWhile (p:=fun y=>decide (n7 y x)) (l:=W)
 rw[List.all_eq_true]at this
 simpa using this y hy
theorem b8H{W:List Tm}(hs:W.Pairwise n7){x y:Tm}(hy:y∈W.dropWhile fun y=>decide (n7 y x)):¬n7 y x:=by
 induction W with
 |nil=>simp at hy
 |cons a W ih=>
  rw[List.dropWhile_cons]at hy
  by_cases ha:n7 a x
  ·rw[if_pos (by simpa using ha)]at hy
   exact ih (List.pairwise_cons.1 hs).2 hy
  ·rw[if_neg (by simpa using ha)]at hy
   rcases List.mem_cons.1 hy with rfl|hy
   ·exact ha
   ·exact fun h=>ha (a1A ((List.pairwise_cons.1 hs).1 y hy) h)
theorem a5S{x y:Tm}(h1:¬n7 y x)(h2:y.num≠x.num):n7 x y:=by
 unfold n7 at*
 omega
theorem b8W{W:List Tm}{x:Tm}(hg:a0n W)(hx:∀y∈W,y.num≠x.num):a0n (b3x W x):=by
 rw[b4W]
 have hsub1:∀y∈W.takeWhile (fun y=>decide (n7 y x)),y∈W:=fun y hy=>(List.takeWhile_sublist _).subset hy
 have hsub2:∀y∈W.dropWhile (fun y=>decide (n7 y x)),y∈W:=fun y hy=>(List.dropWhile_sublist _).subset hy
 have hW:(W.takeWhile fun y=>decide (n7 y x))++(W.dropWhile fun y=>decide (n7 y x))=W:=List.takeWhile_append_dropWhile
 constructor
 ·have h1:=hg.1
  rw[←hW,a1o]at h1
  rw[a1o,List.pairwise_cons]
  refine⟨h1.1,⟨fun y hy=>a5S (b8H hg.1 hy) (hx y (hsub2 y hy)),h1.2.1⟩,fun a ha b hb=> ?_⟩
  rcases List.mem_cons.1 hb with rfl|hb
  ·exact b4c ha
  ·exact h1.2.2 a ha b hb
 ·have h1:=hg.2
  rw[←hW,a1o]at h1
  rw[a1o,List.pairwise_cons]
  refine⟨h1.1,⟨fun y hy=>(hx y (hsub2 y hy)).symm,h1.2.1⟩,fun a ha b hb=> ?_⟩
  rcases List.mem_cons.1 hb with rfl|hb
  ·exact hx a (hsub1 a ha)
  ·exact h1.2.2 a ha b hb
theorem b1H{L M:List Tm}(hg:a0n L)(hs:M.Sublist L):a0n M:=⟨hg.1.sublist hs,hg.2.sublist hs⟩
theorem T7{L:List Tm}(hg:a0n L)(n:Int):a0n (without L n):=b1H hg List.filter_sublist
theorem b6H{L:List Tm}(hg:a0n L)(d:Int):a0n (O1 L d):=b1H hg (List.dropWhile_sublist _)
theorem O6{L:List Tm}{n:Int}{y:Tm}(hy:y∈without L n):y∈L∧y.num≠n:=by
 unfold without at hy
 rw[List.mem_filter]at hy
 exact⟨hy.1,by simpa[Z6]using hy.2⟩
theorem b1G{L:List Tm}(hg:a0n L)(n d:Int):a0n (setT L n d):=b8W (T7 hg n) fun y hy=>(O6 hy).2
section
structure Stc(D:Cfg)(U:List Unt):Prop where
 cfg:K7 D
 sh:b3Y U
 cat:∀u∈U,0≤u.cat
 ul:U.length≤200
structure Wk.wf(U:List Unt)(m:Nat)(w:Wk):Prop where
 kl:w.s.K.length=U.length
 rl:w.s.R.length≤100
 rr:∀r∈w.s.R,Q6 r.us r.gs∧∀v∈r.us,v<U.length
 tg:a0n w.s.T
 tn:∀x∈w.s.T,1≤x.num∧x.num≤w.s.R.length
 ol:w.s.O.length≤70000+m
 ot:∀x∈w.s.O,0≤x.tries∧x.tries≤70000+m
 key:1≤w.s.key∧w.s.key≤8589934592+m
 sl:w.sd.length≤m
 now:0≤w.s.now∧w.s.now≤100000
theorem b5m:∀(n:Nat) (L:List Int),L.Nodup→(∀x∈L,1≤x∧x≤n)→L.length≤n
 |0,[],_,_=>x9 _
 |0,x::L,_,h=>by have:=h x (by simp);omega
 |n+1,L,hn,h=>by
  have h1:=b5m n (L.erase ((n+1:Nat):Int)) (hn.erase _) (fun x hx=>by
   have hm:=List.mem_of_mem_erase hx
   have hne:x≠((n+1:Nat):Int):=fun e=>by
    rw[e]at hx
    exact(List.Nodup.not_mem_erase hn) hx
   have:=h x hm
   omega)
  have h2:=List.length_erase (a:=((n+1:Nat):Int)) (l:=L)
  split at h2<;>omega
section
variable{U:List Unt}{m:Nat}{w w':Wk}
theorem Wk.wf.tl(W:w.wf U m):w.s.T.length≤100:=by
 have h:=b5m w.s.R.length (w.s.T.map Tm.num) (by
  rw[List.Nodup,List.pairwise_map]
  exact W.tg.2) (by
  intro x hx
  obtain⟨y,hy,rfl⟩:=List.mem_map.1 hx
  exact W.tn y hy)
 rw[l_z]at h
 exact Z0 h W.rl
theorem Wk.wf.up(W:w.wf U m){m':Nat}(h:m≤m'):w.wf U m':=
 ⟨W.kl,W.rl,W.rr,W.tg,W.tn,by have:=W.ol;omega,fun x hx=>by have:=W.ot x hx;omega,by have:=W.key;omega,by have:=W.sl;omega,W.now⟩
theorem Wk.wf.len(W:w.wf U m):∀r∈w.s.R,r.us.length≤200∧r.gs.length=r.us.length:=fun r hr=>by
 have h:=(W.rr r hr).1
 have h1:=h.1.2
 exact⟨by omega,h.2.1⟩
theorem C5{i:Nat}(hi:i<w.s.R.length):w.R i∈w.s.R:=by
 unfold Wk.R
 rw[l_s,l_r hi]
 exact l_v hi
theorem E0{i:Nat}{r:Ret}(hi:i<w.s.R.length):(w.put i r).R i=r:=by
 unfold Wk.R Wk.put
 simp[hi]
theorem b5t{i:Nat}{r r':Ret}:(w.put i r).put i r'=w.put i r':=by
 unfold Wk.put
 simp
theorem o7{i:Nat}{r:Ret}:(w.put i r).s.R.length=w.s.R.length:=by simp[Wk.put]
theorem Wk.wf.put(W:w.wf U m){i:Nat}{r:Ret}(h:Q6 r.us r.gs∧∀v∈r.us,v<U.length):(w.put i r).wf U m:=
 ⟨W.kl,by rw[o7];exact W.rl,fun x hx=>by
  rcases List.mem_or_eq_of_mem_set hx with hx|hx
  ·exact W.rr x hx
  ·rw[hx];exact h,W.tg,fun x hx=>by have:=W.tn x hx;rw[o7];exact this,W.ol,W.ot,W.key,W.sl,W.now⟩
theorem Wk.wf.putR(W:w.wf U m){i:Nat}{r:Ret}(hi:i<w.s.R.length)(h1:r.us=(w.R i).us)(h2:r.gs=(w.R i).gs):(w.put i r).wf U m:=
 W.put (by rw[h1,h2];exact W.rr _ (C5 hi))
theorem P4(K:List KU)(n to:Int):(E3 K n to).length=K.length:=by
 unfold E3
 split<;>simp
theorem Wk.wf.mv(W:w.wf U m)(n to:Int):(w.mv n to).wf U m:=
 ⟨by rw[←W.kl];exact P4 _ _ _,W.rl,W.rr,W.tg,W.tn,W.ol,W.ot,W.key,W.sl,W.now⟩
theorem Wk.wf.led(W:w.wf U m)(l:Led):(w.led l).wf U m:=⟨W.kl,W.rl,W.rr,W.tg,W.tn,W.ol,W.ot,W.key,W.sl,W.now⟩
theorem Wk.wf.say(W:w.wf U m)(k n v:Int):(I4 w k n v).wf U (m+1):=
 ⟨W.kl,W.rl,W.rr,W.tg,W.tn,by have:=W.ol;simp only[I4,l_m,l_f,l_g];omega,fun x hx=>by
  rcases List.mem_append.1 hx with hx|hx
  ·have:=W.ot x hx;omega
  ·rw[U1]at hx;rw[hx];exact⟨by show(0:Int)≤1;decide,by show(1:Int)≤_;omega⟩,by have:=W.key;simp only[I4];omega,by have:=W.sl;simp only[I4,l_m,l_f,l_g];omega,W.now⟩
theorem mv_R(w:Wk)(n to:Int)(i:Nat):(w.mv n to).R i=w.R i:=rfl
theorem D4(w:Wk)(i:Nat):(j5 w i).s.R.length=w.s.R.length:=by
 unfold j5
 split
 ·rw[o7];rfl
 ·rfl
theorem Wk.wf.release(W:w.wf U m){i:Nat}(hi:i<w.s.R.length):(j5 w i).wf U m:=by
 unfold j5
 split
 ·exact(W.mv _ _).putR hi rfl rfl
 ·exact W
theorem Wk.wf.without(W:w.wf U m)(n:Int)(O:List Msg)(hO:O.Sublist w.s.O):Wk.wf U m {w with s:={w.s with T:=without w.s.T n,O:=O} }:=
 ⟨W.kl,W.rl,W.rr,T7 W.tg n,fun x hx=>W.tn x (O6 hx).1,Z0 hO.length_le W.ol,fun x hx=>W.ot x (hO.subset hx),W.key,W.sl,W.now⟩
theorem Z7{n:Int}{r:Ret}(h:w.s.at_ n=some r):∃i:Nat,n=(i:Int)+1∧(n-1).toNat=i∧i<w.s.R.length∧w.R i=r∧w.s.R[i]? =some r:=by
 unfold Sag.at_ at h
 split at h
 ·rename_i h1
  have hlt:(n-1).toNat<w.s.R.length:=by
   by_cases hl:(n-1).toNat<w.s.R.length
   ·exact hl
   ·rw[Y1 (by omega)]at h;cases h
  refine⟨(n-1).toNat,by omega,rfl,hlt,?_,h⟩
  unfold Wk.R
  rw[l_s,h]
  rfl
 ·cases h
theorem T5{α β:Type}{x:Except Int α}{f:α→Except Int β}{y:β}(h:x.bind f= .ok y):∃z,x= .ok z∧f z= .ok y:=by
 cases x with
 |error e=>cases h
 |ok z=>exact⟨z,rfl,h⟩
theorem u4{α β:Type}{x:Except Int α}{f:α→β}{y:β}(h:x.map f= .ok y):∃z,x= .ok z∧f z=y:=by
 cases x with
 |error e=>cases h
 |ok z=>exact⟨z,rfl,by cases h;rfl⟩
theorem a3L{num by_:Int}(h:M1 w num by_= .ok w')(W:w.wf U m):w'.wf U m∧w'.s.R.length=w.s.R.length:=by
 unfold M1 at h
 split at h
 ·cases h
 ·rename_i r hr
  obtain⟨i,_,hi,hil,rfl,_⟩:=Z7 hr
  rw[hi]at h
  split at h
  ·cases h
  ·rename_i st hst
   cases h
   have h1:(j5 (w.put i {w.R i with state:=st}) i).s.R.length=w.s.R.length:=by rw[D4,o7]
   have W1:=(W.putR (i:=i) (r:={w.R i with state:=st}) hil rfl rfl).release (i:=i) (by rw[o7];exact hil)
   exact⟨W1.without num _ List.filter_sublist,h1⟩
theorem a3q{num by_:Int}(h:H3 w num by_= .ok w')(W:w.wf U m):w'.wf U m∧w'.s.R.length=w.s.R.length∧∃i:Nat,num=(i:Int)+1∧(num-1).toNat=i∧i<w.s.R.length∧(w'.R i).us=(w.R i).us∧(w'.R i).gs=(w.R i).gs:=by
 unfold H3 at h
 split at h
 ·cases h
 ·rename_i r hr
  obtain⟨i,hn,hi,hil,rfl,_⟩:=Z7 hr
  rw[hi]at h
  split at h
  ·cases h
  ·rename_i st hst
   cases h
   exact⟨W.putR hil rfl rfl,o7,i,hn,hi,hil,by rw[E0 hil],by rw[E0 hil]⟩
theorem Y2(us:List Int)(to:Int):∀{w:Wk},w.wf U m→(t7 w us to).wf U m∧(t7 w us to).s.R=w.s.R:=by
 induction us with
 |nil=>intro w W;exact⟨W,rfl⟩
 |cons u us ih=>
  intro w W
  have:=ih (W.mv u to)
  exact⟨this.1,this.2⟩
theorem a4N{a b sum:Int}(h:Q5 w a b sum= .ok w')(W:w.wf U m):w'.wf U m∧w'.s.R=w.s.R:=by
 obtain⟨l,_,rfl⟩:=u4 h
 exact⟨W.led l,rfl⟩
theorem a8T{i:Nat}{sum:Int}(hi:i<w.s.R.length)(h:X0 w i sum= .ok w')(W:w.wf U m):w'.wf U m∧w'.s.R.length=w.s.R.length:=by
 have h1:=a4N h (W.putR (i:=i) (r:={w.R i with credd:=w64 ((w.R i).credd+sum)}) hi rfl rfl)
 exact⟨h1.1,by rw[h1.2,o7]⟩
theorem a5D{i:Nat}{sum:Int}(hi:i<w.s.R.length)(h:R9 w i sum= .ok w')(W:w.wf U m):w'.wf U (m+1)∧w'.s.R.length=w.s.R.length:=by
 unfold R9 at h
 split at h
 ·cases h;exact⟨W.up (by omega),rfl⟩
 ·split at h
  ·have:=a8T hi h W
   exact⟨this.1.up (by omega),this.2⟩
  ·cases h;exact⟨W.say _ _ _,rfl⟩
theorem a7b{i:Nat}(hi:i<w.s.R.length)(W:w.wf U m):(y8 w i).wf U m∧(y8 w i).s.R.length=w.s.R.length:=by
 unfold y8
 split
 ·exact⟨W.putR hi rfl rfl,o7⟩
 ·exact⟨W,rfl⟩
theorem a9I{ss:List Sup}{i:Nat}{by_:Int}(hi:i<w.s.R.length)(h:G5 ss w i by_= .ok w')(W:w.wf U m):w'.wf U (m+2)∧w'.s.R.length=w.s.R.length:=by
 unfold G5 at h
 split at h
 ·cases h
 ·rename_i st hst
  obtain⟨w1,h1,h⟩:=T5 h
  obtain⟨W1,l1⟩:=a4N h1 (W.putR (i:=i) (r:={w.R i with state:=st}) hi rfl rfl)
  have l1:w1.s.R.length=w.s.R.length:=by rw[l1,o7]
  have hi1:i<w1.s.R.length:=by omega
  obtain⟨w2,h2,rfl⟩:=u4 h
  have h3:w2.wf U (m+2)∧w2.s.R.length=w1.s.R.length:=by
   split at h2
   ·split at h2
    ·have:=a5D (by rw[D4];exact hi1) h2 (W1.release hi1)
     exact⟨this.1.up (by omega),by rw[this.2,D4]⟩
    ·have:=a5D (w:=I4 w1 3 (w1.R i).num (w1.R i).res) hi1 h2 (W1.say _ _ _)
     exact⟨this.1,by rw[this.2];rfl⟩
   ·have:=a5D hi1 h2 W1
    exact⟨this.1.up (by omega),this.2⟩
  have h4:=a7b (i:=i) (by omega) h3.1
  exact⟨h4.1,by omega⟩
theorem b8V(gs:List Int)(j:Nat)(v:Int)(k:Nat):(gs.set j v).getD k 0=if k=j∧j<gs.length then v else gs.getD k 0:=by
 simp only[l_s,List.getElem?_set]
 by_cases hk:j=k
 ·subst hk
  by_cases hj:j<gs.length
  ·simp[hj]
  ·simp[hj]
 ·simp[hk]
  intro h;exact absurd h.symm hk
theorem Y4{us gs:List Int}{j:Nat}{v:Int}(h:Q6 us gs)(hv:btw v (-1) 4):Q6 us (gs.set j v):=by
 obtain⟨h1,h2,h3⟩:=h
 refine⟨h1,by rw[T3];exact h2,fun k hk=> ?_⟩
 obtain⟨a,b,c⟩:=h3 k hk
 refine⟨a,b,?_⟩
 rw[b8V]
 split
 ·exact hv
 ·exact c
theorem a4G{i:Nat}(hi:i<w.s.R.length)(W:w.wf U m):∀j,(u7 U w i j).wf U m∧(u7 U w i j).s.R.length=w.s.R.length∧((u7 U w i j).R i).us=(w.R i).us
 |0=>⟨W,rfl,rfl⟩
 |j+1=>by
  obtain⟨W1,l1,u1⟩:=a4G hi W j
  have hi1:i<(u7 U w i j).s.R.length:=by omega
  have h1:=W1.rr _ (C5 hi1)
  refine⟨(W1.mv _ _).put ⟨Y4 h1.1 ⟨by decide,by decide⟩,h1.2⟩,?_,?_⟩
  ·show(Wk.put _ _ _).s.R.length=_
   rw[o7];exact l1
  ·show((Wk.put _ _ _).R i).us=_
   rw[E0 (by exact hi1)];exact u1
theorem b9u{ss:List Sup}{i:Nat}(hi:i<w.s.R.length)(h:a7C ss U w i= .ok w')(W:w.wf U m):w'.wf U (m+2)∧w'.s.R.length=w.s.R.length:=by
 obtain⟨W1,l1,_⟩:=a4G hi W (w.R i).us.length
 have:=a9I (by omega) h W1
 exact⟨this.1,by omega⟩
theorem b8K{ss:List Sup}{num:Int}(h:a1I ss U w num= .ok w')(W:w.wf U m):w'.wf U (m+2)∧w'.s.R.length=w.s.R.length:=by
 unfold a1I at h
 split at h
 ·cases h
 ·rename_i r hr
  obtain⟨i,_,hi,hil,rfl,_⟩:=Z7 hr
  rw[hi]at h
  split at h
  ·exact b9u hil h W
  ·split at h
   ·have:=a3L h W
    exact⟨this.1.up (by omega),this.2⟩
   ·cases h;exact⟨W.up (by omega),rfl⟩
theorem b0h{α:Type}{f:Wk→α→Except Int Wk}{k:Nat}(hf:∀{m:Nat}{w w':Wk}{x:α},f w x= .ok w'→w.wf U m→w'.wf U (m+k)∧w'.s.R.length=w.s.R.length):
  ∀(l:List α) {m:Nat}{w w':Wk},M5 f w l= .ok w'→w.wf U m→w'.wf U (m+k*l.length)∧w'.s.R.length=w.s.R.length
 | [],m,w,w',h,W=>by cases h;exact⟨W,rfl⟩
 |x::l,m,w,w',h,W=>by
  obtain⟨w1,h1,h2⟩:=T5 h
  have a:=hf h1 W
  have b:=b0h hf l h2 a.1
  refine⟨b.1.up ?_,by omega⟩
  rw[l_f,Nat.mul_succ];omega
theorem b5o{i:Nat}{sum:Int}{yes:Bool}(hi:i<w.s.R.length)(h:a0T w i sum yes= .ok w')(W:w.wf U m):w'.wf U m∧w'.s.R.length=w.s.R.length:=by
 unfold a0T at h
 split at h
 ·have h1:=a4N h (W.putR (i:=i) (r:={w.R i with paid:=w64 ((w.R i).paid+sum)}) hi rfl rfl)
  exact⟨h1.1,by rw[h1.2,o7]⟩
 ·exact a8T hi h W
theorem a8a{ss:List Sup}{i:Nat}{yes:Bool}(hi:i<w.s.R.length)(h:I6 ss w i yes= .ok w')(W:w.wf U m):w'.wf U (m+1)∧w'.s.R.length=w.s.R.length:=by
 unfold I6 at h
 simp only at h
 split at h
 ·split at h
  ·have W1:=(W.putR (i:=i) (r:={w.R i with given:=w64 ((w.R i).given+(u3 ss (w.R i).want).getD 0)}) hi rfl rfl)
   have h1:=a4N h (W1.mv _ _)
   exact⟨h1.1.up (by omega),by rw[h1.2];exact o7⟩
  ·cases h
 ·have:=a5D (by rw[D4];exact hi) h (W.release hi)
  exact⟨this.1,by rw[this.2,D4]⟩
end
end
section
section
variable{U:List Unt}{m:Nat}{w w':Wk}
theorem b3z{now:Int}{O:List Msg}{x:Msg}(h:x∈y9 now O):∃y∈O,x.tries=y.tries∨x.tries=y.tries+1:=by
 obtain⟨y,hy,hx⟩:=List.mem_flatMap.1 h
 refine⟨y,hy,?_⟩
 unfold K6 at hx
 split at hx
 ·simp at hx;exact .inl (by rw[hx])
 ·split at hx
  ·cases hx
  ·simp at hx;exact .inr (by rw[hx];rfl)
theorem a6D{T:List Tm}{n d:Int}{x:Tm}(h:x∈setT T n d):x.num=n∨x∈T:=by
 unfold setT b3x at h
 rcases List.mem_append.1 h with h|h
 ·exact .inr (List.mem_filter.1 (a1O h)).1
 ·rcases List.mem_cons.1 h with rfl|h
  ·exact .inl rfl
  ·exact .inr (List.mem_filter.1 (List.mem_of_mem_drop h)).1
theorem Wk.wf.setT(W:w.wf U m){n d:Int}(hn:1≤n∧n≤w.s.R.length):Wk.wf U m {w with s:={w.s with T:=setT w.s.T n d} }:=
 ⟨W.kl,W.rl,W.rr,b1G W.tg n d,fun x hx=>by
  rcases a6D hx with h|h
  ·rw[h];exact hn
  ·exact W.tn x h,W.ol,W.ot,W.key,W.sl,W.now⟩
theorem Wk.wf.stopT(W:w.wf U m)(n:Int):Wk.wf U m {w with s:={w.s with T:=MX.without w.s.T n} }:=
 ⟨W.kl,W.rl,W.rr,T7 W.tg n,fun x hx=>W.tn x (O6 hx).1,W.ol,W.ot,W.key,W.sl,W.now⟩
theorem c2I{num:Int}(h:a2L w num= .ok w')(W:w.wf U m):w'.wf U m∧w'.s.R.length=w.s.R.length:=by
 obtain⟨w1,h1,h⟩:=T5 h
 obtain⟨W1,l1,i,hn,hi,hil,_⟩:=a3q h1 W
 cases h
 obtain⟨W2,r2⟩:=Y2 (w1.R (num-1).toNat).us 1 W1
 exact⟨W2.setT ⟨by omega,by rw[r2];omega⟩,by show(t7 _ _ _).s.R.length=_;rw[r2];exact l1⟩
theorem b3Q{num:Int}(h:O4 w num= .ok w')(W:w.wf U m):w'.wf U m∧w'.s.R.length=w.s.R.length:=by
 obtain⟨w1,h1,h⟩:=T5 h
 obtain⟨W1,l1,i,hn,hi,hil,_⟩:=a3q h1 W
 cases h
 obtain⟨W2,r2⟩:=Y2 (w1.R (num-1).toNat).us 2 W1
 exact⟨W2.stopT num,by show(t7 _ _ _).s.R.length=_;rw[r2];exact l1⟩
theorem Wk.wf.late(W:w.wf U m){now:Int}(hn:0≤now∧now≤100000):Wk.wf U m {w with s:={w.s with now:=now,T:=O1 w.s.T now} }:=
 ⟨W.kl,W.rl,W.rr,b6H W.tg now,fun x hx=>W.tn x ((List.dropWhile_sublist _).subset hx),W.ol,W.ot,W.key,W.sl,hn⟩
theorem Wk.wf.left(W:w.wf U m)(now:Int):Wk.wf U (m+1) {w with s:={w.s with O:=y9 now w.s.O} }:=
 ⟨W.kl,W.rl,W.rr,W.tg,W.tn,by
  have h1:=F6 (K6 now) (a7y now) w.s.O
  have h2:=W.ol
  show(y9 now w.s.O).length≤_
  unfold y9
  omega,fun x hx=>by
  obtain⟨y,hy,h⟩:=b3z hx
  have:=W.ot y hy
  omega,by have:=W.key;show 1≤w.s.key∧w.s.key≤_;omega,by have:=W.sl;show w.sd.length≤_;omega,W.now⟩
theorem b4L(T:List Tm)(d:Int):(O8 T d).length≤T.length:=(List.takeWhile_sublist _).length_le
theorem b5H{ss:List Sup}{days:Int}{x:Wk×List Msg}(h:a2h ss U w days= .ok x)(W:w.wf U m):x.1.wf U (m+201)∧x.1.s.R.length=w.s.R.length∧x.2.length≤70000+m+200:=by
 unfold a2h at h
 split at h
 ·cases h
 ·split at h
  ·cases h
  ·rename_i h1 h2
   have hnow:=W.now
   obtain⟨w1,h3,h⟩:=T5 h
   obtain⟨w2,h4,rfl⟩:=u4 h
   have a:=b0h (k:=2) (fun h W=>b8K h W) _ h3 (W.late (now:=w.s.now+days) ⟨by omega,by omega⟩)
   rw[l_z]at a
   have hd:=b4L w.s.T (w.s.now+days)
   have htl:=W.tl
   have W1:w1.wf U (m+200):=a.1.up (by omega)
   have b:=b0h (k:=0) (f:=fun w (x:Msg)=>M1 w x.rma 8) (fun h W=>a3L h W) _ h4 (W1.left (w.s.now+days))
   have e:w1.s.R.length=w.s.R.length:=a.2
   have h5:=F6 (K9 (w.s.now+days)) (a4T _) w1.s.O
   have h6:=W1.ol
   exact⟨b.1.up (by omega),by rw[b.2];exact e,by show(A9 _ _).length≤_;unfold A9;omega⟩
theorem c0j{ss:List Sup}{key:Int}{yes:Bool}(h:Z3 ss w key yes= .ok w')(W:w.wf U m):w'.wf U (m+1)∧w'.s.R.length=w.s.R.length:=by
 unfold Z3 at h
 split at h
 ·cases h
 ·rename_i j hj
  simp only at h
  split at h
  ·cases h
  ·rename_i r hr
   obtain⟨i,_,hi,hil,_,_⟩:=Z7 (w:={w with s:={w.s with O:=w.s.O.take j++w.s.O.drop (j+1)} }) hr
   rw[hi]at h
   have hsub:(w.s.O.take j++w.s.O.drop (j+1)).Sublist w.s.O:=by
    conv=>rhs;rw[←G0 j w.s.O]
    exact List.Sublist.append_left (by rw[←List.drop_drop];exact List.drop_sublist _ _) _
   have W1:Wk.wf U m {w with s:={w.s with O:=w.s.O.take j++w.s.O.drop (j+1)} }:=
    ⟨W.kl,W.rl,W.rr,W.tg,W.tn,Z0 hsub.length_le W.ol,fun x hx=>W.ot x (hsub.subset hx),W.key,W.sl,W.now⟩
   split at h
   ·have:=a3L h W1
    exact⟨this.1.up (by omega),this.2⟩
   ·obtain⟨w2,h2,rfl⟩:=u4 h
    have h3:w2.wf U (m+1)∧w2.s.R.length=w.s.R.length:=by
     split at h2
     ·have:=a3q h2 W1
      exact⟨this.1.up (by omega),this.2.1⟩
     ·split at h2
      ·have:=b5o hil h2 W1
       exact⟨this.1.up (by omega),this.2⟩
      ·split at h2
       ·have:=a8a hil h2 W1
        exact⟨this.1,this.2⟩
       ·split at h2
        ·cases h2;exact⟨(W1.mv _ _).up (by omega),rfl⟩
        ·cases h2
    have:=a7b (i:=i) (by rw[h3.2];exact hil) h3.1
    exact⟨this.1,by omega⟩
theorem a5q{r:Ret}{unit grade:Int}{j:Nat}(h:N9 r unit grade= .ok j):r.right∧btw grade 0 4∧j<r.us.length∧r.us.getD j 0=unit∧r.gs.getD j 0= -1:=by
 unfold N9 at h
 split at h
 ·cases h
 ·rename_i hg
  have hgr0:r.right∧btw grade 0 4:=s7 (by cases hd:dcd (r.right∧btw grade 0 4)with|false=>exact absurd hd hg|true=>rfl)
  split at h
  ·cases h
  ·rename_i k hk
   split at h
   ·cases h
   ·rename_i hn
    cases h
    rw[a8w]at hk
    obtain⟨hl,h1,_⟩:=hk
    refine⟨hgr0.1,hgr0.2,hl,?_,?_⟩
    ·rw[l7 hl];simpa using h1
    ·exact Classical.byContradiction fun h=>hn h
theorem b6I{ps:List Pol}{ss:List Sup}{c:Cmd}{i j:Nat}(hil:i<w.s.R.length)(hgr:btw c.grade 0 4)(h:a0Z ps ss U w c i j= .ok w')(W:w.wf U m):w'.wf U (m+3)∧w'.s.R.length=w.s.R.length:=by
 have hx:=W.rr _ (C5 hil)
 have W1:(w.put i {w.R i with gs:=(w.R i).gs.set j c.grade,worth:=w64 ((w.R i).worth+wrt (C8 ps (j9 U c.unit).cat) (j9 U c.unit).share (w.R i).rea c.grade)}).wf U m:=
  W.put ⟨Y4 hx.1 ⟨by have:=hgr.1;omega,hgr.2⟩,hx.2⟩
 unfold a0Z at h
 simp only at h
 generalize hw2:(if(C8 ps (j9 U c.unit).cat).gto c.grade≠0 then _ else _:Wk)=w2 at h
 have h2:w2.wf U (m+1)∧w2.s.R.length=w.s.R.length:=by
  rw[←hw2]
  split
  ·exact⟨(W1.mv _ _).up (by omega),o7⟩
  ·exact⟨(W1.mv _ _).say _ _ _,o7⟩
 split at h
 ·cases h;exact⟨h2.1.up (by omega),h2.2⟩
 ·have:=a9I (by rw[h2.2];exact hil) h h2.1
  exact⟨this.1,by omega⟩
theorem b8Z{ps:List Pol}{ss:List Sup}{c:Cmd}(h:T8 ps ss U w c= .ok w')(W:w.wf U m):w'.wf U (m+3)∧w'.s.R.length=w.s.R.length:=by
 unfold T8 at h
 split at h
 ·cases h
 ·rename_i r hr
  obtain⟨i,_,hi,hil,rfl,_⟩:=Z7 hr
  rw[hi]at h
  split at h
  ·cases h
  ·split at h
   ·cases h
   ·rename_i j hj
    split at h
    ·cases h
    ·exact b6I hil (a5q hj).2.1 h W
theorem a5K{ss:List Sup}{sku:Int}{x:Int×Wk}(h:X1 ss w sku= .ok x)(W:w.wf U m):x.2.wf U m∧x.2.s.R=w.s.R∧x.2.s.now=w.s.now:=by
 unfold X1 at h
 split at h
 ·cases h;exact⟨W,rfl,rfl⟩
 ·split at h
  ·cases h
  ·split at h
   ·cases h
   ·cases h
    exact⟨⟨by rw[←W.kl];exact T3,W.rl,W.rr,W.tg,W.tn,W.ol,W.ot,W.key,W.sl,W.now⟩,rfl,rfl⟩
theorem a1R{ps:List Pol}{os:List Odr}{ss:List Sup}{c:Cmd}{x:Int×Wk}(hU:U.length≤200)(hc:1≤c.us.length∧c.us.length≤200)(h:E5 ps os ss U w c= .ok x)(W:w.wf U m):x.2.wf U (m+1):=by
 unfold E5 at h
 split at h
 ·cases h
 ·split at h
  ·cases h
  ·split at h
   ·cases h
   ·rename_i h1 _ h2
    have hask:∀i,i<c.us.length→E6 U c i:=by
     unfold N6 at h2
     split at h2
     ·simp at h2
     ·rename_i hd
      exact s7 (by cases hd':dcd (∀i,i<c.us.length→E6 U c i)with|false=>exact absurd hd' hd|true=>rfl)
    obtain⟨y,h3,rfl⟩:=u4 h
    obtain⟨W1,r1,n1⟩:=a5K h3 W
    apply Wk.wf.say
    refine⟨W1.kl,?_,?_,b1G W1.tg _ _,?_,W1.ol,W1.ot,W1.key,W1.sl,W1.now⟩
    ·show(w.s.R++_).length≤100
     rw[l_m]
     simp
     omega
    ·intro r hr
     rcases List.mem_append.1 hr with hr|hr
     ·exact W.rr r hr
     ·rw[U1]at hr
      rw[hr]
      refine⟨⟨⟨by simp only;omega,by simp only;omega⟩,by simp,fun k hk=> ?_⟩,fun v hv=> ?_⟩
      ·obtain⟨a,b,c',d⟩:=hask k hk
       refine⟨⟨b,by show c.us.getD k 0≤199;omega⟩,a,?_⟩
       simp only[l_s,a0H,l_r (show k<c.us.length from hk)]
       exact⟨by show(-1:Int)≤-1;decide,by show(-1:Int)≤4;decide⟩
      ·obtain⟨k,hk,rfl⟩:=R7 hv
       obtain⟨a,b,c',d⟩:=hask k hk
       rw[l7 hk]at c'
       exact c'
    ·intro z hz
     have hl:((w.s.R++ [(⟨(w.s.R.length:Int)+1,c.ord,c.rea,c.want,y.1,c.cred||c.us.any fun u=>(C8 ps (j9 U u).cat).cre,1,w.s.now,c.us,c.us.map fun _=> -1,0,0,0,0⟩:Ret)]).length:Int)=w.s.R.length+1:=by
      rw[l_m];simp
     show 1≤z.num∧z.num≤((w.s.R++_).length:Int)
     rw[hl]
     rcases a6D hz with h|h
     ·rw[h];omega
     ·have:=W1.tn z h
      rw[r1]at this
      omega
theorem b8G{D:Cfg}{c:Cmd}{x:Int×List Msg×Wk}(hU:U.length≤200)(hc:c.kind=1→1≤c.us.length∧c.us.length≤200)(h:doP D U w c= .ok x)(W:w.wf U m):x.2.2.wf U (m+201):=by
 unfold doP at h
 split at h
 ·obtain⟨y,h1,rfl⟩:=u4 h
  exact(a1R hU (hc (by assumption)) h1 W).up (by omega)
 ·split at h
  ·obtain⟨y,h1,rfl⟩:=u4 h
   exact(a3L h1 W).1.up (by omega)
  ·split at h
   ·obtain⟨y,h1,rfl⟩:=u4 h
    exact(a3L h1 W).1.up (by omega)
   ·split at h
    ·obtain⟨y,h1,rfl⟩:=u4 h
     exact(c2I h1 W).1.up (by omega)
    ·split at h
     ·obtain⟨y,h1,rfl⟩:=u4 h
      exact(b3Q h1 W).1.up (by omega)
     ·split at h
      ·obtain⟨y,h1,rfl⟩:=u4 h
       exact(b8Z h1 W).1.up (by omega)
      ·split at h
       ·obtain⟨y,h1,rfl⟩:=u4 h
        exact(b5H h1 W).1
       ·obtain⟨y,h1,rfl⟩:=u4 h
        exact(c0j h1 W).1.up (by omega)
def Sag.wf(U:List Unt)(m:Nat)(s:Sag):Prop:=Wk.wf U m ⟨s,[]⟩
theorem c2Z{D:Cfg}{c:Cmd}{s:Sag}(hU:U.length≤200)(W:s.wf U m):(O5 D U s c).2.2.2.wf U (m+201):=by
 unfold O5
 split
 ·exact Wk.wf.up W (by omega)
 ·rename_i hd
  have hf:c.formed:=s7 (by cases hd':dcd c.formed with|false=>exact absurd hd' hd|true=>rfl)
  split
  ·exact Wk.wf.up W (by omega)
  ·rename_i x hx
   have:=b8G hU (fun hk=>by
    have h:=hf.1
    unfold Cmd.fits at h
    rw[if_pos hk]at h
    omega) hx W
   exact⟨this.kl,this.rl,this.rr,this.tg,this.tn,this.ol,this.ot,this.key,Nat.zero_le _,this.now⟩
end
end
def tol(r:Ret):Int:=r.paid+r.credd+r.given
def prc(ss:List Sup)(r:Ret):Int:=(u3 ss r.want).getD 0
def a1H(pr n:Int)(m:Msg):Int:=if m.rma=n then(if m.kind=2 then m.value else if m.kind=3 then pr else 0)else 0
def N8(pr n:Int)(O:List Msg):Int:=(O.map (a1H pr n)).sum
def a1g(a b:Msg):Prop:=a.kind=b.kind∧((a.kind=1∨a.kind=3)∧a.rma=b.rma∨a.kind=4∧a.value=b.value)
structure c1x(D:Cfg)(U:List Unt)(i:Nat)(r:Ret):Prop where
 num:r.num=i+1
 ord:0≤r.ord∧r.ord<D.os.length
 rea:isR r.rea
 want:0≤r.want∧r.want≤1000
 day:0≤r.day∧r.day≤100000
 st:1≤r.state∧r.state≤9
 uo:∀u∈r.us,(j9 U u).ord=r.ord
 g0:r.state≠4→r.state≠5→r.state≠6→∀g∈r.gs,g= -1
 g4:r.state=4→∀g∈r.gs,g≤3
 g5:r.state=5∨r.state=6→∀g∈r.gs,0≤g
 worth:r.worth=J7 D.ps U r
 pos:0≤r.paid∧0≤r.credd∧0≤r.given
 nil:r.state≠5→r.state≠6→tol r=0
structure MsgI(w:Wk)(m:Msg):Prop where
 rma:1≤m.rma∧m.rma≤w.s.R.length
 kind:1≤m.kind∧m.kind≤4
 k1:m.kind=1→(w.R (m.rma-1).toNat).state=1
 k2:m.kind=2→(w.R (m.rma-1).toNat).state=5∧0<m.value
 k3:m.kind=3→(w.R (m.rma-1).toNat).state=5∧m.value=(w.R (m.rma-1).toNat).res∧0≤m.value∧i5 w.s.K m.value=7
 k4:m.kind=4→((w.R (m.rma-1).toNat).state=4∨(w.R (m.rma-1).toNat).state=5)∧i5 w.s.K m.value=8∧∀i<w.s.R.length,(w.R i).res≠m.value
def a2i(D:Cfg)(w:Wk)(e i:Nat)(r:Ret):Prop:= -1≤r.res∧(0≤r.res→r.state≤6∧(u3 D.ss r.want).isSome=true∧
 ((i5 w.s.K r.res=7∧r.state≤5∧(r.state=5→i=e∨∃m∈w.s.O,m.kind=3∧m.rma=r.num))∨
  (i5 w.s.K r.res=8∧5≤r.state∧∀m∈w.s.O,m.kind=3→m.rma≠r.num)))
def there(st g p:Int):Prop:=(st=1∨st=2→p=0)∧(st=3→p=1)∧(st=4→(g<0→p=2)∧(0≤g→p≠1∧p≠2))
def a2d(U:List Unt)(n:Nat)(u:KU):Prop:=(0≤u.place∧u.place≤8)∧(u.place=2→u.recv=true)∧(u.grad=true→u.recv=true)∧(0≤(j9 U n).ord→3≤u.place∧u.place≤5∨u.place=7→u.grad=true)
def fin(r:Ret):Prop:=r.state=5∨r.state=6
instance (r:Ret):Decidable (fin r):=by unfold fin;exact inferInstance
def S8(f:Ret→Int)(R:List Ret):Int:=(R.map f).sum
def U3(r:Ret):Int:=if fin r then r.worth else 0
def U4(r:Ret):Int:=if fin r then r.worth-tol r else 0
structure LedI(w:Wk):Prop where
 a:w.s.led.a= -S8 U3 w.s.R
 b:w.s.led.b=S8 U4 w.s.R
 c:w.s.led.c=S8 Ret.paid w.s.R
 d:w.s.led.d=S8 Ret.credd w.s.R
 e:w.s.led.e=S8 Ret.given w.s.R
structure Inv(D:Cfg)(U:List Unt)(w:Wk)(e:Nat)(q:Int):Prop where
 ret:∀i<w.s.R.length,c1x D U i (w.R i)
 msg:∀m∈w.s.O,MsgI w m
 cls:w.s.O.Pairwise fun a b=>¬a1g a b
 res:∀i<w.s.R.length,a2i D w e i (w.R i)
 dst:∀i<w.s.R.length,∀j<w.s.R.length,i≠j→(w.R i).res=(w.R j).res→(w.R i).res= -1
 own:∀n<w.s.K.length,i5 w.s.K n=7→∃i<w.s.R.length,(w.R i).res=n
 flg:∀n<w.s.K.length,a2d U n (w.s.K.getD n KU0)
 thr:∀i<w.s.R.length,∀k<(w.R i).us.length,there (w.R i).state ((w.R i).gs.getD k 0) (i5 w.s.K ((w.R i).us.getD k 0))
 dsj:∀i<w.s.R.length,∀j<w.s.R.length,i≠j→(w.R i).state≤5→(w.R j).state≤5→∀u∈(w.R i).us,u∉(w.R j).us
 mon:∀i<w.s.R.length,fin (w.R i)→(w.R i).worth=tol (w.R i)+N8 (prc D.ss (w.R i)) (i+1) w.s.O+if i=e then q else 0
 cl:∀i<w.s.R.length,(w.R i).state=6→l8 (i+1) w.s.O=0∧i≠e
 op:∀i<w.s.R.length,(w.R i).state=5→i=e∨0<l8 (i+1) w.s.O
 tim:∀x∈w.s.T,(1≤x.num∧x.num≤w.s.R.length)∧1≤(w.R (x.num-1).toNat).state∧(w.R (x.num-1).toNat).state≤3
 led:LedI w
section
section
variable{D:Cfg}{U:List Unt}{w:Wk}{e i:Nat}{q s:Int}{r:Ret}{K:List KU}{O:List Msg}
theorem R_f(hi:i<w.s.R.length):(w.put i r).R=fun j=>if j=i then r else w.R j:=by
 funext j
 unfold Wk.R Wk.put
 simp only[l_s,List.getElem?_set]
 split
 ·rename_i h;subst h;simp[hi]
 ·rename_i h;rw[if_neg (fun e=>h e.symm)]
theorem a0y{n:Nat}(hn:n<K.length):i5 K n=(K.getD n KU0).place:=by
 simp[i5,l_s,hn]
theorem b9Y{n to m:Int}(hm:0≤m):i5 (E3 K n to) m=if H9 K n to=0∧m=n then to else i5 K m:=by
 unfold E3
 by_cases h:H9 K n to=0
 ·rw[if_pos h]
  have hn:0≤n∧n<K.length:=by
   unfold H9 at h
   split at h
   ·assumption
   ·simp at h
  unfold i5
  rw[if_pos hm,if_pos hm]
  by_cases hmn:m=n
  ·subst hmn
   have:m.toNat<K.length:=by omega
   simp[h,List.getElem?_set,this,a5x]
  ·rw[if_neg (by omega)]
   rw[List.getElem?_set_ne (by omega)]
 ·rw[if_neg h,if_neg (by omega)]
theorem b2E(f:Ret→Int):∀{R:List Ret}{i:Nat} (hi:i<R.length) (r:Ret),S8 f (R.set i r)=S8 f R-f (R.getD i Ret.zero)+f r
 | [],i,hi,_=>absurd hi (by simp)
 |x::R,0,_,r=>by simp[S8];omega
 |x::R,i+1,hi,r=>by
  have:=b2E f (R:=R) (i:=i) (by simpa using hi) r
  simp only[S8,l_i,G7,K1,List.getD_cons_succ]at this⊢
  omega
theorem a7i(pr n:Int)(m:Msg):N8 pr n (O++ [m])=N8 pr n O+a1H pr n m:=by simp[N8]
theorem a2b(n:Int)(m:Msg):l8 n (O++ [m])=l8 n O+if m.rma=n∧m.kind≠1 then 1 else 0:=by
 unfold l8
 rw[List.filter_append,l_m]
 by_cases h:m.rma=n∧m.kind≠1<;>simp[h]
theorem a0X{W:Wk}(h:W.s.R=w.s.R.set i r)(hi:i<w.s.R.length):(∀j,W.R j=if j=i then r else w.R j)∧W.s.R.length=w.s.R.length∧∀f:Ret→Int,S8 f W.s.R=S8 f w.s.R-f (w.R i)+f r:=by
 refine⟨fun j=> ?_,by rw[h];simp,fun f=>by rw[h];exact b2E f hi r⟩
 have:W.R j=(w.put i r).R j:=by unfold Wk.R;rw[h];rfl
 rw[this,R_f hi]
theorem a3a(h:∀n<K.length,a2d U n (K.getD n KU0))(n0 to:Int):∀n<(E3 K n0 to).length,a2d U n ((E3 K n0 to).getD n KU0):=by
 intro n hn
 rw[P4]at hn
 have h1:=h n hn
 unfold E3
 split
 ·rename_i hm
  have hr:0≤n0∧n0<K.length:=by
   unfold H9 at hm
   split at hm
   ·assumption
   ·simp at hm
  have hmay:J4 (i5 K n0) to:=by
   unfold H9 at hm
   rw[if_pos hr]at hm
   split at hm
   ·assumption
   ·simp at hm
  rw[l_s,List.getElem?_set]
  split
  ·rename_i he
   have h2:=h n0.toNat (by omega)
   have hp:=a0y (K:=K) (n:=n0.toNat) (by omega)
   rw[show((n0.toNat:Nat):Int)=n0 by omega]at hp
   rw[hp]at hmay
   subst he
   rw[if_pos (by omega)]
   generalize K.getD n0.toNat KU0=u at*
   obtain⟨pl,sk,rc,gd⟩:=u
   unfold a2d J4 at*
   simp only[a5x,Option.getD_some,Bool.or_eq_true,decide_eq_true_eq]at*
   clear h h1 hm
   rcases hmay with hm|hm|hm|hm|hm|hm<;>grind
  ·rw[←l_s]
   exact h1
 ·exact h1
theorem a4H{n to:Int}:H9 K n to=0↔J4 (i5 K n) to:=by
 have:J4 (i5 K n) to→0≤n∧n<K.length:=fun h=>by
  unfold J4 i5 at h
  split at h
  ·by_cases hn:n.toNat<K.length
   ·omega
   ·rw[Y1 (by omega)]at h
    simp at h
  ·omega
 unfold H9
 constructor
 ·intro h
  split at h
  ·split at h
   ·assumption
   ·simp at h
  ·simp at h
 ·intro h
  rw[if_pos (this h),if_pos h]
theorem a5E{n to m:Int}(hm:0≤m):i5 (E3 K n to) m=if J4 (i5 K m) to∧m=n then to else i5 K m:=by
 rw[b9Y hm]
 by_cases h:m=n
 ·subst h
  simp only[a4H,and_true]
 ·rw[if_neg (fun x=>h x.2),if_neg (fun x=>h x.2)]
def a5z(K:List KU)(us:List Int)(to:Int):List KU:=us.foldl (fun K u=>E3 K u to) K
theorem a0U{to m:Int}(hm:0≤m)(ht:¬J4 to to):∀{us:List Int}{K:List KU},i5 (a5z K us to) m=if J4 (i5 K m) to∧m∈us then to else i5 K m
 | [],K=>by simp[a5z]
 |u::us,K=>by
  show i5 (a5z (E3 K u to) us to) m=_
  rw[a0U hm ht,a5E hm]
  grind
theorem a3O(to:Int):∀{us:List Int}{K:List KU},(∀n<K.length,a2d U n (K.getD n KU0))→(a5z K us to).length=K.length∧∀n<(a5z K us to).length,a2d U n ((a5z K us to).getD n KU0)
 | [],K,h=>⟨rfl,h⟩
 |u::us,K,h=>by
  have:=a3O to (us:=us) (a3a h u to)
  rw[P4]at this
  exact this
theorem K2(to:Int):∀(us:List Int) (w:Wk),t7 w us to={w with s:={w.s with K:=a5z w.s.K us to} }
 | [],w=>rfl
 |u::us,w=>K2 to us (w.mv u to)
theorem Y5{n:Int}(h:i5 K n≠-1):0≤n:=by
 unfold i5 at h
 split at h
 ·assumption
 ·exact absurd rfl h
theorem a4r{pr n:Int}:∀{O:List Msg},(∀m∈O,m.rma=n→m.kind≠2∧m.kind≠3)→N8 pr n O=0
 | [],_=>rfl
 |m::O,h=>by
  have h1:=a4r (pr:=pr) (n:=n) (O:=O) (fun x hx=>h x (by simp[hx]))
  have h2:=h m (by simp)
  simp only[N8,G7,K1,a1H]at h1⊢
  rw[h1]
  split
  ·rw[if_neg (h2 (by assumption)).1,if_neg (h2 (by assumption)).2];rfl
  ·rfl
theorem b3m{pr n:Int}(hp:0≤pr):∀{O:List Msg},(∀m∈O,m.kind=2→0≤m.value)→0≤N8 pr n O
 | [],_=>Int.le_refl _
 |m::O,h=>by
  have h1:=b3m (n:=n) hp (O:=O) (fun x hx=>h x (by simp[hx]))
  have h2:=h m (by simp)
  simp only[N8,G7,K1,a1H]at h1⊢
  split
  ·split
   ·have:=h2 (by assumption);omega
   ·split<;>omega
  ·omega
theorem a1J{pr n:Int}{p:Msg→Bool}:∀{O:List Msg},(∀m∈O,p m=false→m.kind=1∨m.rma≠n)→N8 pr n (O.filter p)=N8 pr n O∧l8 n (O.filter p)=l8 n O
 | [],_=>⟨rfl,rfl⟩
 |m::O,h=>by
  obtain⟨h1,h3⟩:=a1J (pr:=pr) (n:=n) (p:=p) (O:=O) (fun x hx=>h x (by simp[hx]))
  have h2:p m=false→a1H pr n m=0∧¬(m.rma=n∧m.kind≠1):=fun hp=>by
   have:=h m (by simp) hp
   unfold a1H
   grind
  simp only[N8,l8,G7,K1,List.filter_cons]at h1 h3⊢
  cases hp:p m with
  |false=>
   have:=h2 hp
   simp only[hp,Bool.false_eq_true,if_false,decide_eq_true_eq,if_neg this.2]
   omega
  |true=>
   simp only[if_true,G7,K1,List.filter_cons]
   grind
theorem a5s{W:Wk}{p c g:Int}(I:Inv D U w i q)(hi:i<w.s.R.length)(h5:(w.R i).state=5)(hp:0≤p∧0≤c∧0≤g)
  (hR:W.s.R=w.s.R.set i {w.R i with paid:=(w.R i).paid+p,credd:=(w.R i).credd+c,given:=(w.R i).given+g}) (hK:W.s.K=w.s.K) (hO:W.s.O=w.s.O) (hT:W.s.T=w.s.T) (hL:W.s.led=⟨w.s.led.a,w.s.led.b-(p+c+g),w.s.led.c+p,w.s.led.d+c,w.s.led.e+g⟩):
  Inv D U W i (q-(p+c+g)):=by
 obtain⟨hR,hn,hs⟩:=a0X hR hi
 constructor
 case ret=>
  intro j hj
  have:=I.ret j (by omega)
  rw[hR]
  split
  ·subst j
   exact {this with pos:=by have:=this.pos;simp only;omega,nil:=fun h=>absurd h5 h}
  ·exact this
 case msg=>
  intro m hm
  obtain⟨a1,a2,a3,a4,a5,a6⟩:=I.msg m (by grind)
  constructor<;>grind
 case cls=>grind [I.cls]
 case res=>
  intro j hj
  have:=I.res j (by omega)
  grind [a2i]
 case dst=>grind [I.dst]
 case own=>grind [I.own]
 case flg=>grind [I.flg]
 case thr=>grind [I.thr]
 case dsj=>grind [I.dsj]
 case mon=>
  intro j hj
  have:=I.mon j (by omega)
  grind [fin,tol,prc]
 case cl=>grind [I.cl]
 case op=>
  intro j hj
  have:=I.op j (by omega)
  grind
 case tim=>
  intro x hx
  have:=I.tim x (by grind)
  grind
 case led=>
  obtain⟨a1,a2,a3,a4,a5⟩:=I.led
  constructor<;>rw[hs,hL]<;>simp only[U3,U4,fin,tol,h5,true_or,if_true]<;>omega
end
end
end Go.Proofs.YtjagmebglhbdkaaGreat.MX
