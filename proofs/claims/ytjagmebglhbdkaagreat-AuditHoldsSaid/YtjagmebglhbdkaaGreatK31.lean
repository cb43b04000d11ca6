import Derived.Test.YtjagmebglhbdkaaGreatK11
import Derived.Test.YtjagmebglhbdkaaGreatK30
import Derived.Test.YtjagmebglhbdkaaGreatK26
namespace Go.Proofs.YtjagmebglhbdkaaGreat.MX
open Go Go.Proofs
set_option linter.unusedSimpArgs false
set_option linter.unusedVariables false
section
def wr:j6→List Nat
 | .ops l=>l.filterMap j1.dst
 | .draw l _=>l.filterMap j1.dst
 | .seq a b=>wr a++wr b
 | .cond _ a b=>wr a++wr b
 | .block _ c=>wr c
 | .loop c=>wr c
 |_=> []
section
variable{P:Program}{φ:Env→Prop}
theorem a0F{l:List j1}{o:j1}(hw:∀d∈l.filterMap j1.dst,∀ρ v,φ ρ→φ (upd ρ d v))(ho:o∈l){ρ:Env}(v:Value)(h:φ ρ):φ (N5 ρ o.dst v):=by
 cases hd:o.dst with
 |none=>exact h
 |some d=>exact hw d (List.mem_filterMap.2 ⟨o,ho,hd⟩) ρ v h
theorem b0t{l0:List j1}{K:Env→c9→Prop}(hw:∀d∈l0.filterMap j1.dst,∀ρ v,φ ρ→φ (upd ρ d v)):∀{l:List j1} (_:∀o∈l,o∈l0) {ρ:Env}{h:c9},φ ρ→O2 P l K ρ h→O2 P l (fun ρ h=>K ρ h∧φ ρ) ρ h
 | [],_,_,_,hp,hk=>⟨hk,hp⟩
 |o::l,hs,_,_,hp,hk=>V6 (a6x fun v _=>b0t hw (fun x hx=>hs x (by simp[hx])) (a0F hw (hs o (by simp)) v hp)) (b0t hw (fun x hx=>hs x (by simp[hx])) (a0F hw (hs o (by simp)) undef hp)) hk
theorem a1S{S:c9→Prop}{ops:List j1}{K:Env→c9→Prop}(hw:∀d∈ops.filterMap j1.dst,∀ρ v,φ ρ→φ (upd ρ d v)):∀{s:Sch}{ρ:Env}{h:c9},φ ρ→I5 P S ops K s ρ h→I5 P S ops (fun ρ h=>K ρ h∧φ ρ) s ρ h
 | .done,_,_,hp,hk=>⟨hk,hp⟩
 | .no,_,_,_,_=>trivial
 | .bad,_,_,_,hk=>hk
 | .take i k,ρ,h,hp,hk=>by
  simp only[I5]at hk⊢
  split at hk
  ·rename_i o ho
   have hm:=List.mem_of_getElem? ho
   refine V6 (fun hk=> ?_) (a1S hw (a0F hw hm _ hp)) hk
   split at hk
   ·exact I9 (fun v=>a1S hw (a0F hw hm v hp)) hk
   ·obtain⟨v,h1,h2⟩:=hk;exact⟨v,h1,a1S hw (a0F hw hm v hp) h2⟩
   ·exact hk.elim
  ·exact hk.elim
 | .alt i ns k more,ρ,h,hp,hk=>by
  simp only[I5]at hk⊢
  refine⟨?_,a1S hw hp hk.2⟩
  have hk:=hk.1
  split at hk
  ·rename_i o ho
   have hm:=List.mem_of_getElem? ho
   exact V6 (a6x fun v _ h1=>⟨h1.1,a1S hw (a0F hw hm v hp) h1.2⟩) (a1S hw (a0F hw hm _ hp)) hk
  ·exact hk.elim
theorem a0R:∀{c:j6} (_:∀d∈wr c,∀ρ v,φ ρ→φ (upd ρ d v)) {Q:D6→Env→c9→Prop}{ρ:Env}{h:c9},φ ρ→mwp P c Q ρ h→mwp P c (fun e ρ h=>Q e ρ h∧φ ρ) ρ h
 | .skip,_,_,_,_,hp,hk=>⟨hk,hp⟩
 | .fail,_,_,_,_,_,hk=>hk
 | .raw _,_,_,_,_,_,hk=>hk
 | .ops l,hw,_,_,_,hp,hk=>b0t hw (fun _ h=>h) hp hk
 | .draw l s,hw,_,_,_,hp,⟨S,h1,h2⟩=>⟨S,h1,a1S hw hp h2⟩
 | .seq a b,hw,Q,ρ,h,hp,hk=>by
  refine I3 (c:=a) (fun e ρ h hx=> ?_) (a0R (c:=a) (fun d hd=>hw d (Y0 _ hd)) hp hk)
  obtain⟨hx,hp⟩:=hx
  cases e with
  |normal=>exact a0R (c:=b) (fun d hd=>hw d (a2l _ hd)) hp hx
  |exit i=>exact⟨hx,hp⟩
  |ret=>exact⟨hx,hp⟩
 | .cond _ a b,hw,_,_,_,hp,hk=>by
  simp only[mwp,a0r]at hk⊢
  split at hk
  ·split at hk
   ·rename_i hb;rw[if_pos hb];exact a0R (fun d hd=>hw d (Y0 _ hd)) hp hk
   ·rename_i hb;rw[if_neg hb];exact a0R (fun d hd=>hw d (a2l _ hd)) hp hk
  ·exact hk.elim
 | .block id c,hw,Q,ρ,h,hp,hk=>by
  refine I3 (c:=c) (fun e ρ h hx=> ?_) (a0R (c:=c) hw hp hk)
  obtain⟨hx,hp⟩:=hx
  cases e with
  |normal=>exact⟨hx,hp⟩
  |exit i=>
   by_cases hi:i=id
   ·simp only[a2N,if_pos hi]at hx⊢;exact⟨hx,hp⟩
   ·simp only[a2N,if_neg hi]at hx⊢;exact⟨hx,hp⟩
  |ret=>exact⟨hx,hp⟩
 | .loop c,hw,Q,ρ,h,hp,⟨I,μ,h0,hr⟩=>⟨fun ρ h=>I ρ h∧φ ρ,μ,⟨h0,hp⟩,fun ρ h hi=>by
   refine I3 (c:=c) (fun e ρ h hx=> ?_) (a0R (c:=c) hw hi.2 (hr ρ h hi.1))
   obtain⟨hx,hp⟩:=hx
   cases e with
   |normal=>exact⟨⟨hx.1,hp⟩,hx.2⟩
   |exit i=>exact⟨hx,hp⟩
   |ret=>exact⟨hx,hp⟩⟩
 | .exit _,_,_,_,_,hp,hk=>⟨hk,hp⟩
 | .ret,_,_,_,_,hp,hk=>⟨hk,hp⟩
end
def a0Q(ρ:Env):List Nat→Env→Prop
 | [],_=>True
 | [t],ρ'=>ρ' t=ρ t
 |t::l,ρ'=>ρ' t=ρ t∧a0Q ρ l ρ'
theorem a3S(ρ:Env):∀l,a0Q ρ l ρ
 | []=>trivial
 | [_]=>rfl
 |_::b::l=>⟨rfl,a3S ρ (b::l)⟩
theorem a5t{ρ:Env}{d:Nat}{v:Value}:∀{l:List Nat}{ρ':Env},(l.contains d)=false→a0Q ρ l ρ'→a0Q ρ l (upd ρ' d v)
 | [],_,_,_=>trivial
 | [t],ρ',h,hk=>by
  have:t≠d:=fun e=>by simp[e]at h
  show upd ρ' d v t=ρ t
  rw[upd,if_neg this]
  exact hk
 |t::b::l,ρ',h,hk=>by
  have h1:t≠d:=fun e=>by simp[e]at h
  refine⟨?_,a5t (l:=b::l) ?_ hk.2⟩
  ·rw[upd,if_neg h1];exact hk.1
  ·simp only[List.contains_cons,Bool.or_eq_false_iff]at h⊢
   exact h.2
theorem LKp{P:Program}{Q:D6→Env→c9→Prop}{ρ0:Env}{h0:c9}{c:j6}{t1:Tag c}{t2:Tag Q}{t3:Tag ρ0}{t4:Tag h0}{A:Prop}{F:Env→Prop}(a:A)(ks:List Nat)(I:Env→c9→Prop)(μ:Env→c9→Nat)(hi:I ρ0 h0)
  (hr:∀ρ h (J:Env→c9→Prop),F ρ→(∀ρ' h',I ρ' h'→μ ρ' h'<μ ρ h→J ρ' h')→I ρ h→mwp P c (V0 J Q) ρ h)
  (z:A→∀ρ,a0Q ρ0 ks ρ=F ρ:=by(intro a ρ;(try simp(disch:=first|omega|assumption|exact l_a rfl) only[go_sem,↓wBk,simprocAttr,a0Q,a]);exact rfl)) (w:(wr c).all (fun d=> !ks.contains d)=true:=by rfl):a7B P c Q ρ0 h0 t1 t2 t3 t4:=by
 have hw:∀d∈wr c,∀ρ v,a0Q ρ0 ks ρ→a0Q ρ0 ks (upd ρ d v):=fun d hd ρ v=>a5t (by have:=List.all_eq_true.1 w d hd;simpa using this)
 refine⟨fun ρ h=>I ρ h∧a0Q ρ0 ks ρ,μ,⟨hi,a3S ρ0 ks⟩,fun ρ h hi=> ?_⟩
 refine I3 (fun e ρ' h' hx=> ?_) (a0R hw hi.2 (hr ρ h (fun ρ' h'=>I ρ' h'∧μ ρ' h'<μ ρ h) ((z a ρ).mp hi.2) (fun _ _ x y=>⟨x,y⟩) hi.1))
 obtain⟨hx,hp⟩:=hx
 cases e with
 |normal=>exact⟨⟨hx.1,hp⟩,hx.2⟩
 |exit i=>exact hx
 |ret=>exact hx
def b5u(n:Nat)(X:Env→c9→Prop)(Q:D6→Env→c9→Prop):D6→Env→c9→Prop
 | .exit i,ρ,h=>if i=n then X ρ h else Q (.exit i) ρ h
 | .normal,ρ,h=>Q .normal ρ h
 | .ret,ρ,h=>Q .ret ρ h
theorem a9z{n:Nat}{X:Env→c9→Prop}{Q:D6→Env→c9→Prop}{ρ:Env}{h:c9}:b5u n X Q (.exit n) ρ h=X ρ h:=if_pos rfl
theorem b7k{n:Nat}{X:Env→c9→Prop}{Q:D6→Env→c9→Prop}{ρ:Env}{h:c9}:b5u n X Q .ret ρ h=Q .ret ρ h:=rfl
attribute [go_sem ↓] a9z b7k
theorem LKx{P:Program}{Q:D6→Env→c9→Prop}{ρ0:Env}{h0:c9}{c:j6}{t1:Tag c}{t2:Tag Q}{t3:Tag ρ0}{t4:Tag h0}{A:Prop}{F:Env→Prop}(a:A)(ks:List Nat)(I:Env→c9→Prop)(μ:Env→c9→Nat)(n:Nat)(E:Env→c9→Prop)(hi:I ρ0 h0)
  (hx:∀ρ h,F ρ→E ρ h→Q (.exit n) ρ h)
  (hr:∀ρ h (J X:Env→c9→Prop),F ρ→(∀ρ' h',I ρ' h'→μ ρ' h'<μ ρ h→J ρ' h')→(∀ρ' h',E ρ' h'→X ρ' h')→I ρ h→mwp P c (V0 J (b5u n X Q)) ρ h)
  (z:A→∀ρ,a0Q ρ0 ks ρ=F ρ:=by(intro a ρ;(try simp(disch:=first|omega|assumption|exact l_a rfl) only[go_sem,↓wBk,simprocAttr,a0Q,a]);exact rfl)) (w:(wr c).all (fun d=> !ks.contains d)=true:=by rfl):a7B P c Q ρ0 h0 t1 t2 t3 t4:=by
 have hw:∀d∈wr c,∀ρ v,a0Q ρ0 ks ρ→a0Q ρ0 ks (upd ρ d v):=fun d hd ρ v=>a5t (by have:=List.all_eq_true.1 w d hd;simpa using this)
 refine⟨fun ρ h=>I ρ h∧a0Q ρ0 ks ρ,μ,⟨hi,a3S ρ0 ks⟩,fun ρ h hi=> ?_⟩
 refine I3 (fun e ρ' h' hy=> ?_) (a0R (c:=c) hw hi.2 (hr ρ h (fun ρ' h'=>I ρ' h'∧μ ρ' h'<μ ρ h) E ((z a ρ).mp hi.2) (fun _ _ x y=>⟨x,y⟩) (fun _ _ x=>x) hi.1))
 obtain⟨hy,hp⟩:=hy
 cases e with
 |normal=>exact⟨⟨hy.1,hp⟩,hy.2⟩
 |exit i=>
  by_cases e:i=n
  ·subst e
   exact hx _ _ ((z a ρ').mp hp) (by have:=hy;simp only[a5G,a9z]at this;exact this)
  ·have:=hy
   simp only[a5G,b5u,if_neg e]at this
   exact this
 |ret=>exact hy
end
section
set_option maxHeartbeats 8000000
theorem b7P(a b:Int)(h:c9):d8 Tryz.prog 212 [.int .i64 a,.int .i64 b] h fun v h'=>v= .bool (dcd (J4 a b))∧h'=h:=by
 have ha:a=0∨a=1∨a=2∨a=3∨a=7∨a=8∨(¬a=0∧¬a=1∧¬a=2∧¬a=3∧¬a=7∧¬a=8):=by omega
 have hb:b=0∨b=1∨b=2∨b=3∨b=4∨b=5∨b=6∨b=7∨b=8∨(¬b=0∧¬b=1∧¬b=2∧¬b=3∧¬b=4∧¬b=5∧¬b=6∧¬b=7∧¬b=8):=by omega
 rcases ha with rfl|rfl|rfl|rfl|rfl|rfl|ha<;>rcases hb with rfl|rfl|rfl|rfl|rfl|rfl|rfl|rfl|rfl|hb<;>
 (refine EN i212.eq_1 fun K hK=> ?_;first|refine Wc ha hb ?_|refine Wb ha ?_|refine Wb hb ?_|refine Wa ?_)<;>exact hK _ _ ⟨by first|(rw[dT (by unfold J4;omega)])|(rw[dF (by unfold J4;omega)]),rfl⟩
theorem b7R(x:KU)(to:Int)(h:c9):d8 Tryz.prog 169 [.agg x.enc.toArray,.int .i64 to] h fun v h'=>v= .tuple #[.agg (if J4 x.place to then a5x x to else x).enc.toArray,.bool (dcd (J4 x.place to))]∧Fr h h' []:=by
 have S:=St.nil h
 rcases x with⟨pl,sk,rv,gr⟩
 refine EN i169.eq_1 fun K hK=>Wa ?_
 (revert S;(try clear F);refine AL fun a h S F=> ?_)
 simp only[KU.enc]at S
 refine Wb @KU.enc.eq_1 ?_
 (revert S;(try clear F);refine AL fun b h S F=> ?_)
 refine Wc F @KU.enc.eq_1 ?_
 refine cI (b7P _ _ _) ?_
 rintro _ _ ⟨rfl,rfl⟩
 by_cases hm:J4 pl to
 ·rw[dT hm]
  simp only[dT hm,if_pos hm,a5x,KU.enc]at hK
  by_cases h2:to=2<;>by_cases h3:pl=2
  ·refine Wb h2 ?_
   (revert S;(try clear F);refine ST fun h S F=> ?_)
   refine Wc F h3 ?_
   (revert S;(try clear F);refine ST fun h S F=> ?_)
   refine Wb F ?_
   (revert S;(try clear F);refine ST fun h S F=> ?_)
   refine Wb F ?_
   (revert S;(try clear F);refine ST fun h S F=> ?_)
   refine Wb F ?_
   exact hK _ _ ⟨by simp[h2,h3],S.fr⟩
  ·refine Wb h2 ?_
   (revert S;(try clear F);refine ST fun h S F=> ?_)
   refine Wc F h3 ?_
   (revert S;(try clear F);refine ST fun h S F=> ?_)
   refine Wb F ?_
   (revert S;(try clear F);refine ST fun h S F=> ?_)
   refine Wb F ?_
   exact hK _ _ ⟨by simp[h2,h3],S.fr⟩
  ·refine Wd h2 F h3 ?_
   (revert S;(try clear F);refine ST fun h S F=> ?_)
   refine Wb F ?_
   (revert S;(try clear F);refine ST fun h S F=> ?_)
   refine Wb F ?_
   (revert S;(try clear F);refine ST fun h S F=> ?_)
   refine Wb F ?_
   exact hK _ _ ⟨by simp[h2,h3],S.fr⟩
  ·refine Wd h2 F h3 ?_
   (revert S;(try clear F);refine ST fun h S F=> ?_)
   refine Wb F ?_
   (revert S;(try clear F);refine ST fun h S F=> ?_)
   refine Wb F ?_
   exact hK _ _ ⟨by simp[h2,h3],S.fr⟩
 ·rw[dF hm]
  simp only[dF hm,if_neg hm,KU.enc]at hK
  refine Wb F ?_
  (revert S;(try clear F);refine ST fun h S F=> ?_)
  refine Wb F ?_
  exact hK _ _ ⟨rfl,S.fr⟩
section
variable{h0 h:c9}{l:List HP}{L:V3}{C:Cfg}{u:Value}{w:Wk}{U:List Unt}
theorem b5i{w:Wk}{n to:Int}(h:¬(0≤n∧n<w.s.K.length)):w.mv n to=w:=by
 have:E3 w.s.K n to=w.s.K:=by unfold E3 H9;rw[if_neg h];rfl
 show({w with s:={w.s with K:=E3 w.s.K n to} }:Wk)=w
 rw[this]
theorem c3v{w:Wk}{i:Nat}{to:Int}(hi:i<w.s.K.length):w.mv i to={w with s:={w.s with K:=w.s.K.set i (if J4 w.s.K[i].place to then a5x w.s.K[i] to else w.s.K[i])} }:=by
 have hg:w.s.K.getD i KU0=w.s.K[i]:=by rw[l_s,l_r hi];rfl
 have hp:i5 w.s.K i=w.s.K[i].place:=by rw[a0y hi,hg]
 unfold Wk.mv E3
 by_cases h:J4 w.s.K[i].place to
 ·rw[if_pos (a4H.2 (by rw[hp];exact h)),if_pos h,K0,hg]
 ·rw[if_neg (fun e=>h (by have:=a4H.1 e;rwa[hp]at this)),if_neg h,List.set_getElem_self]
theorem Q3(n to:Int)(S:St h0 h (n9 L C u w::l))(hk:w.s.K.length<1000000):d8 Tryz.prog 101 [.pointer (some ⟨L.p,0,none⟩),.int .i64 n,.int .i64 to] h fun v h'=>v= .tuple #[]∧St h0 h' (n9 L C u (w.mv n to)::l):=by
 have S0:=S
 obtain⟨k,t,o,sd,vs,hv,S⟩:=St.mo.1 S
 obtain⟨Ak,ck,rfl⟩:=S.p1.sl
 have F:=S.moF
 by_cases h1:0≤n
 case neg=>
  rw[b5i (by omega)]
  refine EN i101.eq_1 fun K hK=> ?_
  refine Wd F @x6.eq_1 h1 ?_
  exact hK _ _ ⟨rfl,S0⟩
 by_cases h2:n<w.s.K.length
 case neg=>
  rw[b5i (by omega)]
  refine EN i101.eq_1 fun K hK=> ?_
  refine We F @x6.eq_1 h1 h2 ?_
  exact hK _ _ ⟨rfl,S0⟩
 clear S0
 obtain⟨i,rfl⟩:=l_u h1
 have hi:i<w.s.K.length:=by omega
 rw[c3v hi]
 obtain⟨b,rfl⟩:=S.p1.ownAt (by omega)
 obtain⟨LO,hLO⟩:∃LO,LO=moL L C u w (.slice (some ⟨b,0,none⟩) w.s.K.length ck) t o sd vs l:=⟨_,rfl⟩
 rw[←hLO]at S
 have hq:∀h',St h0 h' LO→rdN h' b (i*4) 4=some w.s.K[i].enc:=fun h' S=>by
  rw[hLO]at S
  obtain⟨b',o',e,q⟩:=((St.p1 S).arr KU.enc_len).at hi
  cases e
  rwa[Nat.zero_add]at q
 refine EN i101.eq_1 fun K hK=> ?_
 refine Wd F @x6.eq_1 h2 ?_
 have rx:∀K t,j8 (fun h'=>St h0 h' LO) (fun h'=>rd1 h' (.pointer (some ⟨L.p,4,none⟩))) K t=K (.slice (some ⟨b,0,none⟩) w.s.K.length ck):=fun K t=>rI (fun h' S=>by rw[hLO]at S;exact S.moF 4) h S
 have ry:∀K t,j8 (fun h'=>St h0 h' LO) (fun h'=>i7 (rdN h' b (i*4) 4) fun cs=>some (.agg cs.toArray)) K t=K (.agg w.s.K[i].enc.toArray):=fun K t=>rI (fun h' S=>by rw[hq _ S];rfl) h S
 refine dI (fun h'=>St h0 h' LO) S ?_
 refine Wc rx ry ?_
 refine cI (b7R w.s.K[i] to _) ?_
 rintro _ h ⟨rfl,f1⟩
 have S:=S.frame f1
 refine⟨S,?_⟩
 refine Wa ?_
 rw[hLO]at S
 refine v7 KU.enc_len (i:=i) (x:=if J4 w.s.K[i].place to then a5x w.s.K[i] to else w.s.K[i]) S.p1 hi rfl (by simp[cellsOf,Value.cells]) rfl rfl ?_
 intro h S
 refine Wa ?_
 exact hK _ _ ⟨rfl,St.mo.2 ⟨.slice (some ⟨b,0,none⟩) w.s.K.length ck,t,o,sd,vs,hv,S.p1⟩⟩
end
end
section
set_option maxHeartbeats 8000000
theorem b0O{T:List Tm}{n:Int}{i:Nat}(hi:i<T.length):without (T.take (i+1)) n=without (T.take i) n++if T[i].num=n then []else [T[i]]:=by
 rw[l_t hi,b2O]
 congr 1
 unfold without Z6
 by_cases h:T[i].num=n<;>simp[h]
theorem b4v{α:Type}{enc:α→List Value}{sz:Nat}{h:c9}{A:Option Addr}{xs:List α}(ha:Arr enc sz h A xs)(k:Nat):Arr enc sz h A (xs.take k):=fun i hi=>by
 rw[x4]at hi
 obtain⟨b,o,e,q⟩:=ha i (by omega)
 exact⟨b,o,e,by rw[q,List.getElem_take]⟩
theorem a7g{α:Type}{enc:α→List Value}{sz n k c:Nat}{h:c9}{A:Option Addr}{xs:List α}(ha:Arr enc sz h A xs)(hn:n=xs.length)(hk:k≤n)(hc:n≤c):∃A' c',a1F A sz (k:Int) (n:Int) (c:Int) (c:Int)=some (.slice A' (xs.drop k).length c')∧Arr enc sz h A' (xs.drop k):=by
 subst hn
 by_cases hlt:k<xs.length
 ·obtain⟨b,o,rfl,_⟩:=ha.at (i:=k) hlt
  refine⟨some ⟨b,o+k*sz,none⟩,c-k,?_,fun i hi=> ?_⟩
  ·rw[b8C (by omega) (by omega) (by omega) (by omega) (by omega),M2,K0,show((xs.length:Int)-k).toNat=xs.length-k by omega,show((c:Int)-k).toNat=c-k by omega]
  ·rw[M2]at hi
   obtain⟨b',o',e,q⟩:=ha.at (i:=k+i) (by omega)
   cases e
   exact⟨b,o+k*sz,rfl,by rw[List.getElem_drop,←q,R8];congr 1;omega⟩
 ·obtain rfl:k=xs.length:=by omega
  rw[List.drop_length]
  refine⟨(if c=xs.length then A else A.map (·.add (xs.length*sz))),c-xs.length,?_,Arr.nil _ _ _ _⟩
  rw[b8D (by omega) (by omega) (by omega) (by omega),K0]
  congr 1
  congr 1
  ·by_cases e:c=xs.length
   ·rw[if_pos e,if_pos (by omega)]
   ·rw[if_neg e,if_neg (by omega)]
  ·simp
  ·omega
section
variable{h0 h:c9}{l:List HP}{L:V3}{C:Cfg}{u:Value}{w:Wk}{U:List Unt}{m:Nat}
theorem a2T(n:Int)(S:St h0 h (n9 L C u w::l))(hl:w.s.T.length<1000000):d8 Tryz.prog 102 [.pointer (some ⟨L.p,0,none⟩),.int .i64 n] h fun v h'=>v= .tuple #[]∧St h0 h' (n9 L C u (S7 w n)::l):=by
 obtain⟨k,t,o,sd,vs,hv,S⟩:=St.mo.1 S
 obtain⟨At,ct,rfl⟩:=(St.p2 S).sl
 have F:=S.moF
 refine EN i102.eq_1 fun K hK=> ?_
 refine Wc F @x6.eq_1 ?_
 refine LKp (Nat.zero_add 0) [0,1,10] (fun ρ h'=>∃(i:Nat) (s4:Value),ρ 11= .int .i64 i∧i≤w.s.T.length∧ρ 4=s4∧St h0 h' (i4 tmE 2 139 s4 (without (w.s.T.take i) n)::moL L C u w k (.slice At w.s.T.length ct) o sd vs l)) (fun ρ _=>w.s.T.length-(iv (ρ 11)).toNat) ?_ ?_
 ·refine Wa ?_
  exact⟨0,_,rfl,by omega,rfl,S.nilS⟩
 clear S F
 rintro ρ h J ⟨e0,e1,e10⟩ hJ ⟨i,s4,e11,hi,e4,S⟩
 have F:=S.tl.moF
 obtain⟨A4,c4,rfl⟩:=S.sl
 refine Wc e10 e11 ?_
 refine cD (fun hlt=> ?_) (fun hlt=> ?_)
 ·have hil:i<w.s.T.length:=by omega
  have S3:=S.tl.p2
  obtain⟨b,rfl⟩:=S3.ownAt (by omega)
  have hp:=u2 s9 S3 (i:=i) (j:=1) hil (by omega)
  obtain⟨b',o',e,q⟩:=(S3.arr s9).at hil
  cases e
  rw[Nat.zero_add]at q
  simp only[tmE,l_o,l_p]at hp q
  have hs:=b0O (n:=n) hil
  clear S3
  have hwl:(without (w.s.T.take i) n).length≤i:=by
   have:=List.length_filter_le (fun x=> !Z6 n x) (w.s.T.take i)
   rw[x4]at this
   unfold without
   omega
  by_cases hn:w.s.T[i].num=n
  ·rw[if_pos hn,D9]at hs
   refine Wh e0 e1 F @x6.eq_1 e11 hp hn ?_
   refine hJ _ _ ?_ ?_
   ·refine Wb e4 ?_
    exact⟨i+1,_,rfl,by omega,rfl,by rw[hs];exact S⟩
   ·refine Wb e11 ?_
    omega
  ·rw[if_neg hn]at hs
   refine Wi e0 e1 e4 F @x6.eq_1 e11 hp (Pc hn q) ?_
   refine tA S ?_
   clear S F hp q
   intro g h S
   replace S:=S.nm
   refine Wa ?_
   refine tA1 (bytes:=16) (x:=w.s.T[i]) s9 (by omega) H5 rfl rfl S (by omega) (by omega) ?_
   clear S
   intro v h S
   refine Wb e11 ?_
   refine hJ _ _ ?_ ?_
   ·refine Wa ?_
    exact⟨i+1,_,rfl,by omega,rfl,by rw[hs];exact S⟩
   ·refine Wb e11 ?_
    omega
 obtain rfl:i=w.s.T.length:=by omega
 simp only[C9]at S e4
 refine Wc e0 e4 ?_
 refine c0E hv S ?_
 clear S F
 intro h S
 refine Wa ?_
 exact hK _ _ ⟨rfl,S⟩
theorem b5z(n d:Int)(S:St h0 h (n9 L C u w::l))(hT:a0n w.s.T)(hl:w.s.T.length<1000000):d8 Tryz.prog 103 [.pointer (some ⟨L.p,0,none⟩),.int .i64 n,.int .i64 d] h fun v h'=>v= .tuple #[]∧St h0 h' (n9 L C u (a2Q w n d)::l):=by
 have hT1:=T7 hT n
 have hn1:∀y∈without w.s.T n,y.num≠n:=fun y hy=>(O6 hy).2
 have hl1:(without w.s.T n).length<1000000:=Nat.lt_of_le_of_lt (List.length_filter_le _ _) hl
 refine EN i103.eq_1 fun K hK=>Wa ?_
 refine cV (a2T n S hl) ?_
 clear S
 intro h S
 have hset:∀{k:Nat},k≤(without w.s.T n).length→(∀y∈(without w.s.T n).drop k,n7 ⟨d,n⟩ y)→(∀(h:0<k) (hk:k≤(without w.s.T n).length),¬n7 ⟨d,n⟩ ((without w.s.T n)[k-1]'(by omega)))→(without w.s.T n).take k++⟨d,n⟩::(without w.s.T n).drop k=setT w.s.T n d:=fun {k} hk h1 h2=>c0x hT1.1 hn1 hk h1 (fun h=>h2 h hk)
 have S:St h0 h (n9 L C u {w with s:={w.s with T:=without w.s.T n} }::l):=S
 obtain⟨w1,hw1⟩:∃w1:Wk,w1={w with s:={w.s with T:=without w.s.T n} }:=⟨_,rfl⟩
 have hend:a2Q w n d={w1 with s:={w1.s with T:=setT w.s.T n d} }:=by rw[hw1];rfl
 have e1:without w.s.T n=w1.s.T:=by rw[hw1]
 rw[←hw1]at S
 rw[hend]at hK
 simp only[e1]at hset hT1 hl1
 generalize setT w.s.T n d=Tn at*
 clear hw1 hend hn1 hT hl
 obtain⟨k,t,o,sd,vs,hv,S⟩:=St.mo.1 S
 obtain⟨At,ct,rfl⟩:=(St.p2 S).sl
 have F:=S.moF
 have hcap:=(St.p2 S).cap
 refine Wc F @x6.eq_1 ?_
 refine LKx (Nat.zero_add 0) [0,1,2] (fun ρ h'=>∃i:Nat,ρ 6= .int .i64 i∧i≤w1.s.T.length∧(∀y∈w1.s.T.drop i,n7 ⟨d,n⟩ y)∧h'=h) (fun ρ _=>(iv (ρ 6)).toNat) 0
  (fun ρ h'=>∃i:Nat,ρ 6= .int .i64 i∧i≤w1.s.T.length∧w1.s.T.take i++⟨d,n⟩::w1.s.T.drop i=Tn∧h'=h) ?_ ?_ ?_
 ·refine Wa ?_
  exact⟨w1.s.T.length,rfl,by omega,by simp⟩
 ·rintro ρ _ ⟨e0,e1,e2⟩ ⟨i,e6,hi,hset,rfl⟩
  refine Wa ?_
  refine tA S ?_
  intro g h S
  replace S:=S.nm
  have S:=S.cellOwn (enc:=tmE) (sz:=2) (ys:=[]) s9 rfl (by decide)
  have F:=S.tl.moF
  have S3:=S.tl.p2
  refine We e0 e6 F @x6.eq_1 ?_
  refine tAp (bytes:=16) (xs:=[]) (ys:=w1.s.T.take i) s9 (by omega) H5 rfl S (by simp[W8];omega) (E9 s9 (b4v (S3.arr s9) _) (by simp;omega)) (by simp;omega) (by simp;omega) ?_
  clear S F S3
  intro v h S
  rw[l_k]at S
  refine Wc e1 e2 ?_
  refine tA S ?_
  clear S
  intro g h S
  replace S:=S.nm
  refine Wa ?_
  refine tA1 (bytes:=16) (x:=(⟨d,n⟩:Tm)) s9 (by omega) H5 rfl rfl S (by simp;omega) (by simp;omega) ?_
  clear S
  intro v h S
  have F:=S.tl.moF
  have S3:=S.tl.p2
  obtain⟨A',c',hcut,harr⟩:=a7g (c:=ct) (S3.arr s9) rfl hi hcap.2.1
  refine Wf e0 e6 F @x6.eq_1 hcut ?_
  refine tAp (bytes:=16) (ys:=w1.s.T.drop i) s9 (by omega) H5 rfl S (by simp[W8]) (E9 s9 harr rfl) (by simp;omega) (by simp;omega) ?_
  clear S F S3 harr
  intro v h S
  rw[l_q,List.singleton_append,hset]at S
  obtain⟨A5,c5,rfl⟩:=S.sl
  refine Wa ?_
  refine c0E hv S ?_
  clear S
  intro h S
  refine Wa ?_
  exact hK _ _ ⟨rfl,S⟩
 rintro ρ h J X ⟨e0,e1,e2⟩ hJ hX ⟨i,e6,hi,hall,rfl⟩
 rcases i with _|j
 ·refine Wb e6 ?_
  refine hX _ _ ?_
  exact⟨0,by((refine Wb e6 ?_);trivial),by omega,hset (by omega) hall (fun h=>absurd h (by omega)),rfl⟩
 have hj:j<w1.s.T.length:=by omega
 have hj1:((j+1:Nat):Int)-1=(j:Int):=by omega
 have hj0:(0:Int)<((j+1:Nat):Int):=by omega
 have S3:=St.p2 S
 obtain⟨b,rfl⟩:=S3.ownAt (by omega)
 have hp:=u2 s9 S3 (i:=j) (j:=0) hj (by omega)
 have hq:=u2 s9 S3 (i:=j) (j:=1) hj (by omega)
 simp only[tmE,l_o,l_p,H8]at hp hq
 have hgo:n7 ⟨d,n⟩ w1.s.T[j]→∀y∈w1.s.T.drop j,n7 ⟨d,n⟩ y:=fun hx y hy=>by
  rw[X8 hj]at hy
  rcases List.mem_cons.1 hy with rfl|hy
  ·exact hx
  ·exact hall y hy
 have hno:¬n7 ⟨d,n⟩ w1.s.T[j]→w1.s.T.take (j+1)++⟨d,n⟩::w1.s.T.drop (j+1)=Tn:=fun hx=>hset hi hall (fun _ _=>hx)
 generalize w1.s.T[j]=x at*
 have F:=St.moF S
 by_cases d1:d<x.day
 ·refine Wi e0 e1 e2 e6 F @x6.eq_1 hj0 (Pd hj1 hp d1) ?_
  refine hJ _ _ ?_ ?_
  ·refine Wa ?_
   exact⟨j,rfl,by omega,hgo (.inl d1)⟩
  ·refine Wb e6 ?_
   omega
 by_cases d2:x.day=d
 ·by_cases d3:n<x.num
  ·refine Wi e0 e1 e2 e6 F @x6.eq_1 hj0 (Pf hj1 hp hq d1 (Pc d2 d3)) ?_
   refine hJ _ _ ?_ ?_
   ·refine Wa ?_
    exact⟨j,rfl,by omega,hgo (.inr ⟨d2.symm,d3⟩)⟩
   ·refine Wb e6 ?_
    omega
  ·refine Wi e0 e1 e2 e6 F @x6.eq_1 hj0 (Pf hj1 hp hq d1 (Pc d2 d3)) ?_
   refine hX _ _ ?_
   exact⟨j+1,by((refine Wb e6 ?_);trivial),hi,hno (fun h=>by unfold n7 at h;simp only at h;omega),rfl⟩
 ·refine Wi e0 e1 e2 e6 F @x6.eq_1 hj0 (Pf hj1 hp hq d1 d2) ?_
  refine hX _ _ ?_
  exact⟨j+1,by((refine Wb e6 ?_);trivial),hi,hno (fun h=>by unfold n7 at h;simp only at h;omega),rfl⟩
end
end
section
set_option maxHeartbeats 8000000
def lim(n:Nat):Int:=1000000000000000+2199023255552*n
structure Bnd(n:Nat)(w:Wk):Prop where
 led:∀k,-lim n≤w.s.led.get k∧w.s.led.get k≤lim n
 pd:∀i,-lim n≤(w.R i).paid∧(w.R i).paid≤lim n
 cd:∀i,-lim n≤(w.R i).credd∧(w.R i).credd≤lim n
 gv:∀i,-lim n≤(w.R i).given∧(w.R i).given≤lim n
theorem b3A{n:Nat}(h:n≤100000):1000000000000000≤lim n∧lim n≤1000000000000000000:=by unfold lim;omega
theorem a7z(n:Nat):lim (n+1)=lim n+2199023255552:=by unfold lim;omega
section
variable{h0 h:c9}{l:List HP}{L:V3}{C:Cfg}{u:Value}{w:Wk}{U:List Unt}{m n b i:Nat}
theorem a6C(kind num value:Int)(S:St h0 h (n9 L C u w::l))(W:w.wf U m)(hm:m<500000):d8 Tryz.prog 161 [.pointer (some ⟨L.p,0,none⟩),.int .i64 kind,.int .i64 num,.int .i64 value] h fun v h'=>v= .tuple #[]∧St h0 h' (n9 L C u (I4 w kind num value)::l):=by
 have hkey:=W.key
 have hnow:=W.now
 have hol:=W.ol
 have hsl:=W.sl
 obtain⟨k,t,o,sd,vs,hv,S⟩:=St.mo.1 S
 obtain⟨Ao,co,rfl⟩:=(St.p3 S).sl
 obtain⟨As,cs,rfl⟩:=(St.p5 S).sl
 have F:=S.moF
 obtain⟨x,hx⟩:∃x:Msg,x=⟨w.s.key,kind,num,value,1,w.s.now+1⟩:=⟨_,rfl⟩
 have hP:I4 w kind num value=⟨{w.s with key:=w.s.key+1,O:=w.s.O++ [x]},w.sd++ [x]⟩:=by rw[hx];rfl
 have hx6:x.enc.length=6:=rfl
 rw[hP]
 refine EN i161.eq_1 fun K hK=>Wa ?_
 have r13:∀K t',j8 (fun h'=>∀off,rd1 h' (.pointer (some ⟨L.p,off,none⟩))=(x6 C u k (.slice L.A w.s.R.length L.c) t (.slice Ao w.s.O.length co) (.slice As w.sd.length cs) w.s)[off]?) (fun h'=>rd1 h' (.pointer (some ⟨L.p,13,none⟩))) K t'=K (.int .i64 w.s.key):=fun K t'=>rI (fun h' hh=>hh 13) h F
 have r14:∀K t',j8 (fun h'=>∀off,rd1 h' (.pointer (some ⟨L.p,off,none⟩))=(x6 C u k (.slice L.A w.s.R.length L.c) t (.slice Ao w.s.O.length co) (.slice As w.sd.length cs) w.s)[off]?) (fun h'=>rd1 h' (.pointer (some ⟨L.p,14,none⟩))) K t'=K (.int .i64 w.s.now):=fun K t'=>rI (fun h' hh=>hh 14) h F
 refine dI (fun h'=>∀off,rd1 h' (.pointer (some ⟨L.p,off,none⟩))=(x6 C u k (.slice L.A w.s.R.length L.c) t (.slice Ao w.s.O.length co) (.slice As w.sd.length cs) w.s)[off]?) F ?_
 refine Wc r13 r14 ?_
 clear r13 r14 F
 refine tA S ?_
 clear S
 intro q h S
 refine⟨S.tl.moF,?_⟩
 refine Wa ?_
 refine tS S rfl rfl (l_a rfl) ?_
 clear S
 intro h S
 have S:St h0 h (d9 q x.enc 127::moL L C u w k t (.slice Ao w.s.O.length co) (.slice As w.sd.length cs) vs l):=by rw[hx];exact S
 have F:=S.tl.moF
 refine Wc F @x6.eq_1 ?_
 refine tS S.p1 rfl rfl (l_a rfl) ?_
 clear S F
 intro h S
 have S:St h0 h (d9 q x.enc 127::moL L C u {w with s:={w.s with key:=w.s.key+1} } k t (.slice Ao w.s.O.length co) (.slice As w.sd.length cs) vs l):=S.p1
 have r12:∀K t',j8 (fun h'=>St h0 h' (d9 q x.enc 127::moL L C u {w with s:={w.s with key:=w.s.key+1} } k t (.slice Ao w.s.O.length co) (.slice As w.sd.length cs) vs l)) (fun h'=>rd1 h' (.pointer (some ⟨L.p,12,none⟩))) K t'=K (.slice Ao w.s.O.length co):=fun K t'=>rI (fun h' S=>S.tl.moF 12) h S
 have rq:∀K t',j8 (fun h'=>St h0 h' (d9 q x.enc 127::moL L C u {w with s:={w.s with key:=w.s.key+1} } k t (.slice Ao w.s.O.length co) (.slice As w.sd.length cs) vs l)) (fun h'=>i7 (rdN h' q 0 6) fun cs=>some (.agg cs.toArray)) K t'=K (.agg x.enc.toArray):=fun K t'=>rI (fun h' S=>by rw[M3 S (x9 6)];rfl) h S
 refine Wa ?_
 refine dI (fun h'=>St h0 h' (d9 q x.enc 127::moL L C u {w with s:={w.s with key:=w.s.key+1} } k t (.slice Ao w.s.O.length co) (.slice As w.sd.length cs) vs l)) S ?_
 refine Wd r12 rq hx6 ?_
 clear r12 rq
 refine tA S ?_
 clear S
 intro g h S
 refine⟨S.tl,?_⟩
 refine Wa ?_
 refine tA1 (bytes:=48) (x:=x) (xs:=w.s.O) enc_len (by omega) enc_plain rfl rfl S.p5.p1 (by omega) (by omega) ?_
 clear S
 intro v h S
 obtain⟨A',c',rfl⟩:=S.sl
 refine Wa ?_
 refine tS S.p2 rfl rfl (l_a rfl) ?_
 clear S
 intro h S
 have S:St h0 h (d9 q x.enc 127::moL L C u {w with s:={w.s with key:=w.s.key+1,O:=w.s.O++ [x]} } k t (.slice A' (w.s.O++ [x]).length c') (.slice As w.sd.length cs) vs l):=S.p4.p4.p2.p4
 have r15:∀K t',j8 (fun h'=>St h0 h' (d9 q x.enc 127::moL L C u {w with s:={w.s with key:=w.s.key+1,O:=w.s.O++ [x]} } k t (.slice A' (w.s.O++ [x]).length c') (.slice As w.sd.length cs) vs l)) (fun h'=>rd1 h' (.pointer (some ⟨L.p,15,none⟩))) K t'=K (.slice As w.sd.length cs):=fun K t'=>rI (fun h' S=>S.tl.moF 15) h S
 have rq:∀K t',j8 (fun h'=>St h0 h' (d9 q x.enc 127::moL L C u {w with s:={w.s with key:=w.s.key+1,O:=w.s.O++ [x]} } k t (.slice A' (w.s.O++ [x]).length c') (.slice As w.sd.length cs) vs l)) (fun h'=>i7 (rdN h' q 0 6) fun cs=>some (.agg cs.toArray)) K t'=K (.agg x.enc.toArray):=fun K t'=>rI (fun h' S=>by rw[M3 S (x9 6)];rfl) h S
 refine Wa ?_
 refine dI (fun h'=>St h0 h' (d9 q x.enc 127::moL L C u {w with s:={w.s with key:=w.s.key+1,O:=w.s.O++ [x]} } k t (.slice A' (w.s.O++ [x]).length c') (.slice As w.sd.length cs) vs l)) S ?_
 refine Wd r15 rq hx6 ?_
 clear r15 rq
 refine tA S ?_
 clear S
 intro g h S
 refine⟨S.tl,?_⟩
 refine Wa ?_
 refine tA1 (bytes:=48) (x:=x) (xs:=w.sd) enc_len (by omega) enc_plain rfl rfl S.p7.p1 (by omega) (by omega) ?_
 clear S
 intro v h S
 obtain⟨A2,c2,rfl⟩:=S.sl
 refine Wa ?_
 refine tS S.p2 rfl rfl (l_a rfl) ?_
 clear S
 intro h S
 refine Wa ?_
 exact hK _ _ ⟨rfl,St.mo.2 ⟨k,t,.slice A' (w.s.O++ [x]).length c',.slice A2 (w.sd++ [x]).length c2,vs,hv,S.p2.tl.p5.p5.p5.p5.p4⟩⟩
theorem a4M(x y s:Int)(hab:x=0∧y=1∨x=1∧y=2∨x=1∧y=3∨x=1∧y=4)(S:St h0 h (n9 L C u w::l))(B:Bnd n w)(hn:n≤100000)(hs:0≤s∧s≤2199023255552):
  d8 Tryz.prog 164 [.pointer (some ⟨L.p,0,none⟩),.int .i64 x,.int .i64 y,.int .i64 s] h fun v h'=>v= .tuple #[]∧St h0 h' (n9 L C u (w.led (K3 w.s.led x y s))::l):=by
 have hl:=b3A hn
 have b0: -lim n≤w.s.led.a∧w.s.led.a≤lim n:=B.led 0
 have b1: -lim n≤w.s.led.b∧w.s.led.b≤lim n:=B.led 1
 have b2: -lim n≤w.s.led.c∧w.s.led.c≤lim n:=B.led 2
 have b3: -lim n≤w.s.led.d∧w.s.led.d≤lim n:=B.led 3
 have b4: -lim n≤w.s.led.e∧w.s.led.e≤lim n:=B.led 4
 obtain⟨k,t,o,sd,vs,hv,S⟩:=St.mo.1 S
 have F:=S.moF
 rcases hab with⟨rfl,rfl⟩|⟨rfl,rfl⟩|⟨rfl,rfl⟩|⟨rfl,rfl⟩
 ·refine EN i164.eq_1 fun K hK=>Wa ?_
  refine dE ?_
  refine Wc F @x6.eq_1 ?_
  refine tS S rfl rfl (l_a rfl) ?_
  clear S F
  intro h S
  have S:St h0 h (moL L C u (w.led {w.s.led with a:=w.s.led.a-s}) k t o sd vs l):=S
  have F:=S.moF
  refine Wa ?_
  refine dE ?_
  refine Wd F @x6.eq_1 @Wk.led.eq_1 ?_
  refine tS S rfl rfl (l_a rfl) ?_
  clear S F
  intro h S
  refine Wa ?_
  exact hK _ _ ⟨rfl,St.mo.2 ⟨k,t,o,sd,vs,hv,S⟩⟩
 all_goals
  refine EN i164.eq_1 fun K hK=>Wa ?_
  refine dE ?_
  refine Wc F @x6.eq_1 ?_
  refine tS S rfl rfl (l_a rfl) ?_
  clear S F
  intro h S
  have S:St h0 h (moL L C u (w.led {w.s.led with b:=w.s.led.b-s}) k t o sd vs l):=S
  have F:=S.moF
  refine Wa ?_
  refine dE ?_
  refine Wd F @x6.eq_1 @Wk.led.eq_1 ?_
  refine tS S rfl rfl (l_a rfl) ?_
  clear S F
  intro h S
  refine Wa ?_
  exact hK _ _ ⟨rfl,St.mo.2 ⟨k,t,o,sd,vs,hv,S⟩⟩
theorem b4l{O:List Msg}{num:Int}{i:Nat}(hi:i<O.length):l8 num (O.take (i+1))=l8 num (O.take i)+if O[i].rma=num∧O[i].kind≠1 then 1 else 0:=by
 rw[l_t hi]
 unfold l8
 rw[List.filter_append,l_m]
 congr 1
 by_cases h:O[i].rma=num∧O[i].kind≠1
 ·rw[if_pos h,List.filter_cons,if_pos (decide_eq_true h)];rfl
 ·rw[if_neg h,List.filter_cons,if_neg (by simpa using h)];rfl
theorem b6h(num:Int)(S:St h0 h (n9 L C u w::l))(hl:w.s.O.length<1000000):d8 Tryz.prog 25 [.pointer (some ⟨L.p,0,none⟩),.int .i64 num] h fun v h'=>v= .int .i64 (l8 num w.s.O)∧h'=h:=by
 obtain⟨k,t,o,sd,vs,hv,S⟩:=St.mo.1 S
 obtain⟨Ao,co,rfl⟩:=(St.p3 S).sl
 have F:=S.moF
 refine EN i25.eq_1 fun K hK=> ?_
 refine Wc F @x6.eq_1 ?_
 refine LKp (Nat.zero_add 0) [0,1,11] (fun ρ h'=>∃i:Nat,ρ 12= .int .i64 i∧i≤w.s.O.length∧ρ 5= .int .i64 (l8 num (w.s.O.take i))∧h'=h) (fun ρ _=>w.s.O.length-(iv (ρ 12)).toNat) ?_ ?_
 ·refine Wa ?_
  exact⟨0,rfl,by omega,rfl⟩
 rintro ρ _ J ⟨e0,e1,e11⟩ hJ ⟨i,e12,hi,e5,rfl⟩
 refine Wc e11 e12 ?_
 refine cD (fun hlt=> ?_) (fun hlt=> ?_)
 ·have hil:i<w.s.O.length:=by omega
  have S3:=St.p3 S
  obtain⟨b,rfl⟩:=S3.ownAt (by omega)
  have hp:=u2 enc_len S3 (i:=i) (j:=1) hil (by omega)
  have hq:=u2 enc_len S3 (i:=i) (j:=2) hil (by omega)
  have hw:=b4l (num:=num) hil
  have hle:l8 num (w.s.O.take i)≤i:=by
   have:=List.length_filter_le (fun m:Msg=>decide (m.rma=num∧m.kind≠1)) (w.s.O.take i)
   rw[x4]at this
   unfold l8
   omega
  generalize w.s.O[i]=x at*
  simp only[Msg.enc,l_o,l_p]at hp hq
  by_cases d1:x.rma=num
  ·by_cases d2:x.kind=1
   ·rw[if_neg (fun h=>h.2 d2),H8]at hw
    refine Wi e0 e1 e12 F @x6.eq_1 hp hq (Pc d1 d2) ?_
    refine hJ _ _ ?_ ?_
    ·refine Wa ?_
     exact⟨i+1,rfl,by omega,by rw[e5,hw];rfl⟩
    ·refine Wb e12 ?_
     omega
   ·rw[if_pos ⟨d1,d2⟩]at hw
    refine Wi e0 e1 e5 e12 F @x6.eq_1 hp (Pd hq d1 d2) ?_
    refine hJ _ _ ?_ ?_
    ·refine Wa ?_
     exact⟨i+1,rfl,by omega,by rw[hw];rfl⟩
    ·refine Wb e12 ?_
     omega
  ·rw[if_neg (fun h=>d1 h.1),H8]at hw
   refine Wi e0 e1 e12 F @x6.eq_1 hp hq d1 ?_
   refine hJ _ _ ?_ ?_
   ·refine Wa ?_
    exact⟨i+1,rfl,by omega,by rw[e5,hw];rfl⟩
   ·refine Wb e12 ?_
    omega
 obtain rfl:i=w.s.O.length:=by omega
 rw[C9]at e5
 refine Wb e5 ?_
 exact hK _ _ ⟨rfl,rfl⟩
end
end
section
set_option maxHeartbeats 4000000
structure Loc where
 p:Nat
 k:Nat
 t:Nat
 o:Nat
 A:Option Addr
 c:Nat
def wkA(L:Loc)(D:Cfg)(u:Value)(w:Wk):HP:=exA fun x:Value×List i0=>a1U (b2n (x.2.map i0.r=w.s.R)::d9 L.p (t8 D u L.k L.t L.o (.slice L.A w.s.R.length L.c) x.1 w.s) 113::t6 L.k w.s.K::H2 L.t w.s.T::D8 L.o w.s.key w.s.O::
 i4 i0.enc 14 136 (.slice L.A w.s.R.length L.c) x.2::i4 Msg.enc 6 128 x.1 w.sd::x.2.map j2)
section
variable{h0 h:c9}{l:List HP}{L:Loc}{D:Cfg}{u:Value}{w:Wk}{U:List Unt}
theorem St.wk:St h0 h (wkA L D u w::l)↔∃(sd:Value) (vs:List i0),vs.map i0.r=w.s.R∧St h0 h (d9 L.p (t8 D u L.k L.t L.o (.slice L.A w.s.R.length L.c) sd w.s) 113::t6 L.k w.s.K::H2 L.t w.s.T::D8 L.o w.s.key w.s.O::
  i4 i0.enc 14 136 (.slice L.A w.s.R.length L.c) vs::i4 Msg.enc 6 128 sd w.sd::(vs.map j2++l)):=by
 rw[wkA,St.ex]
 constructor
 ·rintro⟨⟨sd,vs⟩,S⟩
  obtain⟨hv,S⟩:=St.pure.1 (St.stars.1 S)
  exact⟨sd,vs,hv,S⟩
 ·rintro⟨sd,vs,hv,S⟩
  exact⟨⟨sd,vs⟩,St.stars.2 (St.pure.2 ⟨hv,S⟩)⟩
theorem St.wkCell(S:St h0 h (wkA L D u w::l)):∃sd M,St h0 h (d9 L.p (t8 D u L.k L.t L.o (.slice L.A w.s.R.length L.c) sd w.s) 113::M)∧
  ∀h' (s':Sag),s'.K=w.s.K→s'.R=w.s.R→s'.T=w.s.T→s'.key=w.s.key→s'.O=w.s.O→St h0 h' (d9 L.p (t8 D u L.k L.t L.o (.slice L.A w.s.R.length L.c) sd s') 113::M)→St h0 h' (wkA L D u {w with s:=s'}::l):=by
 obtain⟨sd,vs,hv,S⟩:=St.wk.1 S
 refine⟨sd,_,S,fun h' s' e1 e2 e3 e4 e5 S'=>St.wk.2 ⟨sd,vs,?_,?_⟩⟩
 ·rw[hv];exact e2.symm
 ·simp only[e1,e2,e3,e4,e5]
  exact S'
theorem St.wkStock(S:St h0 h (wkA L D u w::l)):∃M,St h0 h (t6 L.k w.s.K::M)∧∀h' K',St h0 h' (t6 L.k K'::M)→St h0 h' (wkA L D u {w with s:={w.s with K:=K'} }::l):=by
 obtain⟨sd,vs,hv,S⟩:=St.wk.1 S
 exact⟨_,S.p1,fun h' K' S'=>St.wk.2 ⟨sd,vs,hv,S'.p1⟩⟩
theorem St.wkTim(S:St h0 h (wkA L D u w::l)):∃M,St h0 h (H2 L.t w.s.T::M)∧∀h' T',St h0 h' (H2 L.t T'::M)→St h0 h' (wkA L D u {w with s:={w.s with T:=T'} }::l):=by
 obtain⟨sd,vs,hv,S⟩:=St.wk.1 S
 exact⟨_,S.p2,fun h' T' S'=>St.wk.2 ⟨sd,vs,hv,S'.p2.p2⟩⟩
theorem St.wkObx(S:St h0 h (wkA L D u w::l)):∃M,St h0 h (D8 L.o w.s.key w.s.O::M)∧∀h' key' O',St h0 h' (D8 L.o key' O'::M)→St h0 h' (wkA L D u {w with s:={w.s with key:=key',O:=O'} }::l):=by
 obtain⟨sd,vs,hv,S⟩:=St.wk.1 S
 exact⟨_,S.p3,fun h' key' O' S'=>St.wk.2 ⟨sd,vs,hv,S'.p3.p3.p3⟩⟩
theorem St.wkRet{b i:Nat}(S:St h0 h (wkA L D u w::l))(hA:L.A=some ⟨b,0,none⟩)(hi:i<w.s.R.length):
  ∃x:i0,x.r=w.R i∧(∀j,j<14→rd1 h (.pointer (some ⟨b,i*14+j,none⟩))=x.enc[j]?)∧rdN h b (i*14) 14=some x.enc∧Arr i6 1 h x.A x.r.us∧Arr i6 1 h x.B x.r.gs:=by
 obtain⟨sd,vs,hv,S⟩:=St.wk.1 S
 have hil:i<vs.length:=by rw[←hv,l_z]at hi;exact hi
 have e:vs[i].r=w.R i:=by
  unfold Wk.R
  rw[←hv,l_s,a0H,l_r hil]
  rfl
 have S4:=S.p4
 rw[hA]at S4
 obtain⟨b',o',hb,q⟩:=(S4.arr i0.enc_len).at hil
 cases hb
 have hr:=K4 S (x:=vs[i]) (by simp only[l_e,l_y];exact .inr (.inr (.inr (.inr (.inr (.inr (.inl (a0I (l_v hil)))))))))
 refine⟨vs[i],e,fun j hj=>u2 i0.enc_len S4 hil hj,?_,hr.1,hr.2⟩
 rw[Nat.zero_add]at q
 exact q
theorem Y6{b i j:Nat}{v:Value}{r':Ret}{K:Value→c9→Prop}{s:Tag h}{t:Tag K}(S:St h0 h (wkA L D u w::l))(hA:L.A=some ⟨b,0,none⟩)(hi:i<w.s.R.length)(hj:j<14)(hp:pC [v]=true)
  (hu:r'.us=(w.R i).us) (hg:r'.gs=(w.R i).gs) (hx:∀x:i0,x.r=w.R i→i0.enc {x with r:=r'}=v5 x.enc j [v]) (hk:∀h',St h0 h' (wkA L D u (w.put i r')::l)→K undef h'):P8 1 (.pointer (some ⟨b,i*14+j,none⟩)) [v] h K s t:=by
 obtain⟨sd,vs,hv,S⟩:=St.wk.1 S
 have hl:vs.length=w.s.R.length:=by rw[←hv,l_z]
 have hil:i<vs.length:=by omega
 have e:vs[i].r=w.R i:=by
  unfold Wk.R
  rw[←hv,l_s,a0H,l_r hil]
  rfl
 have S4:=S.p4
 rw[hA]at S4
 refine G8 i0.enc_len (i:=i) (j:=j) (x:={vs[i]with r:=r'}) S4 hil rfl (by simp;omega) rfl hp (hx _ e) ?_
 intro h' S'
 rw[←hA]at S'
 refine hk _ (St.wk.2 ⟨sd,vs.set i {vs[i]with r:=r'},?_,?_⟩)
 ·rw[List.map_set,hv];rfl
 ·have e1:(vs.set i {vs[i]with r:=r'}).map j2=vs.map j2:=by
   rw[List.map_set]
   have:j2 {vs[i]with r:=r'}=(vs.map j2)[i]'(by rw[l_z];exact hil):=by
    rw[Y9]
    unfold j2
    simp only[hu,hg,e]
   rw[this,List.set_getElem_self]
  have e2:(w.put i r').s.R.length=w.s.R.length:=o7
  rw[e1]
  show St h0 h' (d9 L.p (t8 D u L.k L.t L.o (.slice L.A (w.put i r').s.R.length L.c) sd (w.put i r').s) 113::_::_::_::i4 i0.enc 14 136 (.slice L.A (w.put i r').s.R.length L.c) _::_)
  rw[e2]
  exact S'.p4.p4.p4.p4
end
end
end Go.Proofs.YtjagmebglhbdkaaGreat.MX
