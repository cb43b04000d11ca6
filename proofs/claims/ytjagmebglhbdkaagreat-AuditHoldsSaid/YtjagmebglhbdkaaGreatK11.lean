import Derived.Test.YtjagmebglhbdkaaGreatK07
namespace Go.Proofs.YtjagmebglhbdkaaGreat.MX
open Go Go.Proofs
set_option linter.unusedSimpArgs false
set_option linter.unusedVariables false
section
structure HP where
 P:c9→List Nat→Prop
 loc:∀{h h':c9}{B:List Nat},P h B→(∀b∈B,h'[b]? =h[b]?)→P h' B
 lt:∀{h:c9}{B:List Nat},P h B→∀b∈B,b<h.size
def Sat(n:Nat)(h:c9):List HP→List Nat→Prop
 | [],_=>True
 |p::l,U=>∃B,p.P h B∧(∀b∈B,n≤b∧b∉U)∧Sat n h l (B++U)
section
variable{n:Nat}{h h':c9}{l l':List HP}{U V:List Nat}{p q:HP}
theorem Sat.sub(s:Sat n h l U)(hs:∀b∈V,n≤b→b<h.size→b∈U):Sat n h l V:=by
 induction l generalizing U V with
 |nil=>trivial
 |cons p l ih=>
  obtain⟨B,hp,hb,hr⟩:=s
  refine⟨B,hp,fun b hm=>⟨(hb b hm).1,fun hv=>(hb b hm).2 (hs b hv (hb b hm).1 (p.lt hp b hm))⟩,ih hr fun b hm hn hl=> ?_⟩
  rcases List.mem_append.1 hm with hm|hm
  ·exact Y0 _ hm
  ·exact a2l _ (hs b hm hn hl)
theorem Sat.swap(s:Sat n h (p::q::l) U):Sat n h (q::p::l) U:=by
 obtain⟨B,hp,hb,C,hq,hc,hr⟩:=s
 refine⟨C,hq,fun b hm=>⟨(hc b hm).1,fun hu=>(hc b hm).2 (a2l _ hu)⟩,B,hp,fun b hm=>⟨(hb b hm).1,fun hu=> ?_⟩,hr.sub fun b hm _ _=> ?_⟩
 ·rcases List.mem_append.1 hu with hu|hu
  ·exact(hc b hu).2 (Y0 _ hm)
  ·exact(hb b hm).2 hu
 ·simp only[l_y]at hm⊢
  rcases hm with hm|hm|hm
  ·exact .inr (.inl hm)
  ·exact .inl hm
  ·exact .inr (.inr hm)
theorem Sat.tl(s:Sat n h (p::l) U):Sat n h l U:=by
 obtain⟨B,_,_,hr⟩:=s
 exact hr.sub fun b hm _ _=>a2l _ hm
theorem Sat.keep(s:Sat n h l U)(hk:∀b,n≤b→b<h.size→b∉U→h'[b]? =h[b]?):Sat n h' l U:=by
 induction l generalizing U with
 |nil=>trivial
 |cons p l ih=>
  obtain⟨B,hp,hb,hr⟩:=s
  exact⟨B,p.loc hp fun b hm=>hk b (hb b hm).1 (p.lt hp b hm) (hb b hm).2,hb,ih hr fun b hn hl hu=>hk b hn hl fun hm=>hu (a2l _ hm)⟩
theorem Sat.perm(s:Sat n h l U)(hp:l.Perm l'):Sat n h l' U:=by
 induction hp generalizing U with
 |nil=>trivial
 |cons x _ ih=>obtain⟨B,hx,hb,hr⟩:=s;exact⟨B,hx,hb,ih hr⟩
 |swap x y l=>exact s.swap
 |trans _ _ i1 i2=>exact i2 (i1 s)
end
structure St(h0 h:c9)(l:List HP):Prop where
 fr:Fr h0 h []
 sat:Sat h0.size h l []
section
variable{h0 h h':c9}{l l':List HP}{p q:HP}
theorem St.nil(h:c9):St h h []:=⟨Fr.refl _ _,trivial⟩
theorem St.perm(s:St h0 h l)(hp:l.Perm l'):St h0 h l':=⟨s.fr,s.sat.perm hp⟩
theorem St.swap(s:St h0 h (p::q::l)):St h0 h (q::p::l):=⟨s.fr,s.sat.swap⟩
theorem St.tl(s:St h0 h (p::l)):St h0 h l:=⟨s.fr,s.sat.tl⟩
theorem u6{α:Type}(a:List α)(x:α)(b:List α):(a++x::b).Perm (x::(a++b)):=List.perm_middle
section
variable{a b c d e f g i j k m o:HP}
theorem St.d1(s:St h0 h (p::a::l)):St h0 h (p::l):=s.swap.tl
theorem St.p0(s:St h0 h (p::l)):St h0 h (p::l):=s
theorem St.p1(s:St h0 h (a::p::l)):St h0 h (p::a::l):=s.swap
theorem St.p2(s:St h0 h (a::b::p::l)):St h0 h (p::a::b::l):=s.perm (u6 [a,b] p l)
theorem St.p3(s:St h0 h (a::b::c::p::l)):St h0 h (p::a::b::c::l):=s.perm (u6 [a,b,c] p l)
theorem St.p4(s:St h0 h (a::b::c::d::p::l)):St h0 h (p::a::b::c::d::l):=s.perm (u6 [a,b,c,d] p l)
theorem St.p5(s:St h0 h (a::b::c::d::e::p::l)):St h0 h (p::a::b::c::d::e::l):=s.perm (u6 [a,b,c,d,e] p l)
theorem St.p6(s:St h0 h (a::b::c::d::e::f::p::l)):St h0 h (p::a::b::c::d::e::f::l):=s.perm (u6 [a,b,c,d,e,f] p l)
theorem St.p7(s:St h0 h (a::b::c::d::e::f::g::p::l)):St h0 h (p::a::b::c::d::e::f::g::l):=s.perm (u6 [a,b,c,d,e,f,g] p l)
theorem St.p8(s:St h0 h (a::b::c::d::e::f::g::i::p::l)):St h0 h (p::a::b::c::d::e::f::g::i::l):=s.perm (u6 [a,b,c,d,e,f,g,i] p l)
theorem St.p9(s:St h0 h (a::b::c::d::e::f::g::i::j::p::l)):St h0 h (p::a::b::c::d::e::f::g::i::j::l):=s.perm (u6 [a,b,c,d,e,f,g,i,j] p l)
theorem St.p10(s:St h0 h (a::b::c::d::e::f::g::i::j::k::p::l)):St h0 h (p::a::b::c::d::e::f::g::i::j::k::l):=s.perm (u6 [a,b,c,d,e,f,g,i,j,k] p l)
theorem St.p11(s:St h0 h (a::b::c::d::e::f::g::i::j::k::m::p::l)):St h0 h (p::a::b::c::d::e::f::g::i::j::k::m::l):=s.perm (u6 [a,b,c,d,e,f,g,i,j,k,m] p l)
end
theorem St.hd(s:St h0 h (p::l)):∃B,p.P h B∧(∀b∈B,h0.size≤b)∧
  ∀(h':c9) (q:HP) (C:List Nat),Fr h h' B→q.P h' C→(∀b∈C,b∈B∨h.size≤b)→St h0 h' (q::l):=by
 obtain⟨hf,B,hp,hb,hr⟩:=s
 refine⟨B,hp,fun b hm=>(hb b hm).1,fun h' q C hf' hq hc=>⟨⟨Z0 hf.size hf'.size,fun b hl _=> ?_⟩,C,hq,fun b hm=>⟨?_,by simp⟩,?_⟩⟩
 ·rw[hf'.same b (Nat.lt_of_lt_of_le hl hf.size) (fun hm=>by have:=(hb b hm).1;omega),hf.same b hl (by simp)]
 ·rcases hc b hm with h1|h1
  ·exact(hb b h1).1
  ·have:=hf.size;omega
 ·have h1:Sat h0.size h l (B++C):=hr.sub fun b hm _ hl=>by
   rcases List.mem_append.1 hm with hm|hm
   ·exact Y0 _ hm
   ·rcases hc b hm with h1|h1
    ·exact Y0 _ h1
    ·omega
  exact(h1.keep fun b _ hl hu=>hf'.same b hl fun hm=>hu (Y0 _ hm)).sub fun b hm _ _=>by
   rw[D9]at hm
   exact a2l _ hm
theorem St.frame(s:St h0 h l)(hf:Fr h h' []):St h0 h' l:=
 ⟨⟨Z0 s.fr.size hf.size,fun b hl _=>by rw[hf.same b (Nat.lt_of_lt_of_le hl s.fr.size) (by simp),s.fr.same b hl (by simp)]⟩,s.sat.keep fun b _ hl _=>hf.same b hl (by simp)⟩
theorem St.new{C:List Nat}(s:St h0 h l)(hf:Fr h h' [])(hq:q.P h' C)(hc:∀b∈C,h.size≤b):St h0 h' (q::l):=by
 refine⟨(s.frame hf).fr,C,hq,fun b hm=>⟨Z0 s.fr.size (hc b hm),by simp⟩,?_⟩
 have h1:Sat h0.size h l (C++ []):=s.sat.sub fun b hm _ hl=>by
  rw[D9]at hm
  have:=hc b hm
  omega
 exact h1.keep fun b _ hl _=>hf.same b hl (by simp)
def exA{α:Type}(f:α→HP):HP where
 P h B:=∃x,(f x).P h B
 loc:=fun⟨x,hx⟩ hk=>⟨x,(f x).loc hx hk⟩
 lt:=fun⟨x,hx⟩=>(f x).lt hx
def b2n(φ:Prop):HP where
 P _ B:=φ∧B=[]
 loc:=fun h _=>h
 lt:=fun⟨_,e⟩ b hb=>by subst e;cases hb
def a2S(p q:HP):HP where
 P h B:=∃C D,B=C++D∧p.P h C∧q.P h D∧∀b∈C,b∉D
 loc:=fun⟨C,D,e,hp,hq,hd⟩ hk=>⟨C,D,e,p.loc hp fun b hb=>hk b (by rw[e];exact Y0 _ hb),q.loc hq fun b hb=>hk b (by rw[e];exact a2l _ hb),hd⟩
 lt:=fun⟨C,D,e,hp,hq,hd⟩ b hb=>by
  rw[e]at hb
  rcases List.mem_append.1 hb with hb|hb
  ·exact p.lt hp b hb
  ·exact q.lt hq b hb
def empA:HP where
 P _ B:=B=[]
 loc:=fun h _=>h
 lt:=fun e b hb=>by subst e;cases hb
def a1U:List HP→HP
 | []=>empA
 | [p]=>p
 |p::q::l=>a2S p (a1U (q::l))
theorem St.ex{α:Type}{f:α→HP}:St h0 h (exA f::l)↔∃x,St h0 h (f x::l):=by
 constructor
 ·rintro⟨hf,B,⟨x,hx⟩,hr⟩
  exact⟨x,hf,B,hx,hr⟩
 ·rintro⟨x,hf,B,hx,hr⟩
  exact⟨hf,B,⟨x,hx⟩,hr⟩
theorem St.pure{φ:Prop}:St h0 h (b2n φ::l)↔φ∧St h0 h l:=by
 constructor
 ·rintro⟨hf,B,⟨hx,rfl⟩,_,hr⟩
  exact⟨hx,hf,hr⟩
 ·rintro⟨hx,hf,hr⟩
  exact⟨hf,[],⟨hx,rfl⟩,by simp,hr⟩
theorem St.emp:St h0 h (empA::l)↔St h0 h l:=by
 constructor
 ·rintro⟨hf,B,rfl,_,hr⟩
  exact⟨hf,hr⟩
 ·rintro⟨hf,hr⟩
  exact⟨hf,[],rfl,by simp,hr⟩
theorem St.star:St h0 h (a2S p q::l)↔St h0 h (p::q::l):=by
 constructor
 ·rintro⟨hf,B,⟨C,D,rfl,hp,hq,hd⟩,hb,hr⟩
  refine⟨hf,C,hp,fun b hm=>⟨(hb b (Y0 _ hm)).1,by simp⟩,D,hq,fun b hm=>⟨(hb b (a2l _ hm)).1,fun hc=> ?_⟩,hr.sub fun b hm _ _=> ?_⟩
  ·rw[D9]at hc
   exact hd b hc hm
  ·simp only[D9,l_y]at hm⊢
   exact hm.symm
 ·rintro⟨hf,C,hp,hc,D,hq,hd,hr⟩
  refine⟨hf,C++D,⟨C,D,rfl,hp,hq,fun b h1 h2=>(hd b h2).2 (Y0 _ h1)⟩,fun b hm=>⟨?_,by simp⟩,hr.sub fun b hm _ _=> ?_⟩
  ·rcases List.mem_append.1 hm with hm|hm
   ·exact(hc b hm).1
   ·exact(hd b hm).1
  ·simp only[D9,l_y]at hm⊢
   exact hm.symm
theorem St.stars{ps:List HP}:St h0 h (a1U ps::l)↔St h0 h (ps++l):=by
 induction ps generalizing l with
 |nil=>exact St.emp
 |cons p ps ih=>
  cases ps with
  |nil=>rfl
  |cons q ps=>
   refine St.star.trans ⟨fun s=> ?_,fun s=> ?_⟩
   ·have:=ih.1 s.swap
    exact this.perm (by simpa using(List.perm_middle (l₁:=q::ps)))
   ·have:St h0 h ((q::ps)++p::l):=s.perm (by simpa using(List.perm_middle (l₁:=q::ps)).symm)
    exact(ih.2 this).swap
def d9(b:Nat)(cs:List Value)(T:Nat):HP where
 P h B:=B=[b]∧blk h b=some (cs,T,(0,0))
 loc:=fun⟨e,hb⟩ hk=>⟨e,by subst e;rw[←hb];simp only[blk,hk b (by simp)]⟩
 lt:=fun⟨e,hb⟩ b' hm=>by subst e;simp at hm;subst hm;exact F5 hb
def i4{α:Type}(enc:α→List Value)(sz T:Nat)(v:Value)(xs:List α):HP where
 P h B:=B=i9 v∧Own enc sz T 0 h v xs
 loc:=fun⟨e,ho⟩ hk=>⟨e,ho.keep fun b hb=>by simp only[blk,hk b (e▸hb)]⟩
 lt:=fun⟨e,ho⟩ b hm=>(ho.lt b (e▸hm)).1
theorem St.blk{b:Nat}{cs:List Value}{T:Nat}(s:St h0 h (d9 b cs T::l)):blk h b=some (cs,T,(0,0)):=by
 obtain⟨B,hp,_⟩:=s.hd
 exact hp.2
theorem St.own{α:Type}{enc:α→List Value}{sz T:Nat}{v:Value}{xs:List α}(s:St h0 h (i4 enc sz T v xs::l)):Own enc sz T 0 h v xs:=by
 obtain⟨B,hp,_⟩:=s.hd
 exact hp.2
theorem St.sl{α:Type}{enc:α→List Value}{sz T:Nat}{v:Value}{xs:List α}(s:St h0 h (i4 enc sz T v xs::l)):∃A c,v= .slice A xs.length c:=s.own.slice
theorem St.nilS{α:Type}{enc:α→List Value}{sz T:Nat}(s:St h0 h l):St h0 h (i4 enc sz T (.slice none 0 0) []::l):=
 s.new (Fr.refl _ _) ⟨rfl,.nil⟩ (by simp[i9])
theorem St.alloc{cs:List Value}{T:Nat}(s:St h0 h l):St h0 (h.push (.cells cs.toArray T (0,0))) (d9 h.size cs T::l):=
 s.new ((Fr.refl _ _).push _) (C:=[h.size]) ⟨rfl,C7 rfl⟩ (by simp)
theorem St.set{b:Nat}{cs cs':List Value}{T:Nat}(s:St h0 h (d9 b cs T::l)):St h0 (h.setIfInBounds b (.cells cs'.toArray T (0,0))) (d9 b cs' T::l):=by
 obtain⟨B,hp,_,hk⟩:=s.hd
 obtain⟨rfl,hb⟩:=hp
 exact hk _ _ [b] ((Fr.refl _ _).set (.inl (by simp)) _) ⟨rfl,L2 (F5 hb)⟩ (fun b' hm=> .inl hm)
theorem St.ownUp{α:Type}{enc:α→List Value}{sz T:Nat}{v v':Value}{xs xs':List α}(s:St h0 h (i4 enc sz T v xs::l))(hf:Fr h h' (i9 v))(ho:Own enc sz T 0 h' v' xs')(hb:∀b∈i9 v',b∈i9 v∨h.size≤b):St h0 h' (i4 enc sz T v' xs'::l):=by
 obtain⟨B,hp,_,hk⟩:=s.hd
 obtain⟨rfl,_⟩:=hp
 exact hk _ _ _ hf ⟨rfl,ho⟩ hb
theorem St.ownNew{α:Type}{enc:α→List Value}{sz T:Nat}{v:Value}{xs:List α}(s:St h0 h l)(hf:Fr h h' [])(ho:Own enc sz T h.size h' v xs):St h0 h' (i4 enc sz T v xs::l):=
 s.new hf ⟨rfl,ho.rebase (fun _ _=>Nat.zero_le _)⟩ (fun b hb=>(ho.lt b hb).2)
theorem St.ownTo{α β:Type}{enc:α→List Value}{enc':β→List Value}{sz T:Nat}{v:Value}{xs:List α}{ys:List β}(s:St h0 h (i4 enc sz T v xs::l))(hx:xs.flatMap enc=ys.flatMap enc')(hl:xs.length=ys.length):St h0 h (i4 enc' sz T v ys::l):=by
 obtain⟨B,hp,_,hk⟩:=s.hd
 refine hk _ _ _ (Fr.refl _ _) ⟨rfl,?_⟩ (fun b hb=> .inl (by rw[hp.1];exact hb))
 rcases hp.2 with⟨rfl,rfl⟩|⟨b,cap,cs,rfl,hb,hle,h63,hblk,hln⟩
 ·have:ys=[]:=a7w (by simpa using hl.symm)
  exact .inl ⟨rfl,this⟩
 ·exact .inr ⟨b,cap,cs,by rw[hl],hb,by omega,h63,by rw[hblk,hx],by rw[←hx];exact hln⟩
def HP.says(p:HP)(h:c9):Prop:=∃B,p.P h B
def All(h:c9):List HP→Prop
 | []=>True
 |p::l=>p.says h∧All h l
theorem Sat.all{n:Nat}{U:List Nat}(s:Sat n h l U):All h l:=by
 induction l generalizing U with
 |nil=>trivial
 |cons p l ih=>
  obtain⟨B,hp,hb,hr⟩:=s
  exact⟨⟨B,hp⟩,ih hr⟩
theorem St.all(s:St h0 h l):All h l:=s.sat.all
theorem aN:All h []=True:=(_root_.id rfl)
theorem aC:All h (p::l)=(p.says h∧All h l):=(_root_.id rfl)
theorem b8n{b:Nat}{cs:List Value}{T:Nat}(hb:MX.blk h b=some (cs,T,(0,0))):(∀off,rd1 h (.pointer (some ⟨b,off,none⟩))=cs[off]?)∧∀off n,off+n≤cs.length→rdN h b off n=some ((cs.drop off).take n):=
 ⟨fun off=>j3 hb,fun off n hl=>v8 hb hl⟩
theorem yC{b:Nat}{cs:List Value}{T:Nat}:(d9 b cs T).says h=(MX.blk h b=some (cs,T,(0,0))∧(∀off,rd1 h (.pointer (some ⟨b,off,none⟩))=cs[off]?)∧∀off n,off+n≤cs.length→rdN h b off n=some ((cs.drop off).take n)):=by
 apply propext
 constructor
 ·rintro⟨B,_,hb⟩
  exact⟨hb,b8n hb⟩
 ·rintro⟨hb,_⟩
  exact⟨_,rfl,hb⟩
theorem E7{L:List HP}{F:c9→Option Value}{o:Option Value}{K:Value→Prop}{t:Tag K}(S:St h0 h L)(hv:∀h',St h0 h' L→F h'=o):j8 (fun h'=>St h0 h' L) F K t=D7 o K ⟨⟩:=by
 apply propext
 constructor
 ·rintro⟨v,h1,h2⟩
  rw[←hv h S,h1 h S]
  exact h2
 ·intro h1
  obtain⟨v,rfl,h2⟩:=H6 h1
  exact⟨v,hv,h2⟩
end
def a5g(T:Nat)(cs:List Value)(mk:Nat→Value)(h:c9)(K:Value→c9→Prop)(_:Tag h)(_:Tag K):Prop:=K (mk h.size) (h.push (.cells cs.toArray T (0,0)))
def b9y(b:Nat):Value:= .pointer (some ⟨b,0,none⟩)
def mkSl(n:Nat)(b:Nat):Value:= .slice (some ⟨b,0,none⟩) n n
theorem b9z{b:Nat}:b9y b= .pointer (some ⟨b,0,none⟩):=rfl
theorem b5f{n b:Nat}:mkSl n b= .slice (some ⟨b,0,none⟩) n n:=rfl
section
variable{P:Program}{ρ:Env}{h0 h:c9}{K:Value→c9→Prop}{l:List HP}{s:Tag h}{t:Tag K}{T:Nat}{cs:List Value}
theorem c3o{z:List Value}:Eff.wp P ρ h K (.alloc T z)=a5g T z b9y h K ⟨⟩ ⟨⟩:=(_root_.id rfl)
theorem c5s{x:Opd}:Eff.wp P ρ h K (.box T x)=a5g T (cellsOf (ev ρ x)) b9y h K ⟨⟩ ⟨⟩:=(_root_.id rfl)
theorem c1h{len:Nat}{z:List Value}{ps:List (Nat×Nat×Opd)}:Eff.wp P ρ h K (.bslice T len z ps)=D7 (a0s (n8 z len) (ps.map fun p=>(p.1,p.2.1,ev ρ p.2.2))) (fun cs=>
   a5g T cs (mkSl len) h K ⟨⟩ ⟨⟩) ⟨⟩:=(_root_.id rfl)
theorem tA{mk:Nat→Value}(S:St h0 h l)(hk:∀b h',St h0 h' (d9 b cs T::l)→K (mk b) h'):a5g T cs mk h K s t:=hk _ _ S.alloc
theorem tS{n b off:Nat}{cs':List Value}(S:St h0 h (d9 b cs T::l))(hn:cs'.length=n)(hp:pC cs'=true)(hl:off+n≤cs.length)(hk:∀h',St h0 h' (d9 b (v5 cs off cs') T::l)→K undef h'):
  P8 n (.pointer (some ⟨b,off,none⟩)) cs' h K s t:=by
 rw[sT,S.blk]
 simp only[b1j]
 exact⟨⟨hn,hp,by rw[hn];exact hl,.inl (x9 _)⟩,hk _ S.set⟩
theorem m8{b off:Nat}(S:St h0 h (d9 b cs T::l)):rd1 h (.pointer (some ⟨b,off,none⟩))=cs[off]? :=j3 S.blk
theorem M3{b off n:Nat}(S:St h0 h (d9 b cs T::l))(hl:off+n≤cs.length):rdN h b off n=some ((cs.drop off).take n):=v8 S.blk hl
section
variable{α:Type}{enc:α→List Value}{sz:Nat}{v:Value}{xs:List α}
theorem tAp{bytes:Nat}{z:List Value}{y:Value}{ys:List α}(hsz:∀x,(enc x).length=sz)(h0':0<sz)(hpl:∀x,pC (enc x)=true)(hz:z.length=sz)
  (S:St h0 h (i4 enc sz T v xs::l)) (hm:W8 y=some ys.length) (hc:x7 h sz ys.length y=some (ys.flatMap enc)) (hroom:(xs.length+ys.length)*bytes≤140737488355328) (h63:xs.length+ys.length≤9223372036854775807)
  (hk:∀v' h',St h0 h' (i4 enc sz T v' (xs++ys)::l)→K v' h'):a6V T sz bytes z v y h K s t:=
 a1B hsz h0' hpl hz S.own (Nat.zero_le _) hm hc hroom h63 fun v' h' ho hf hb=>hk v' h' (S.ownUp hf ho hb)
theorem tA1{bytes b T':Nat}{z:List Value}{x:α}(hsz:∀x,(enc x).length=sz)(h0':0<sz)(hpl:∀x,pC (enc x)=true)(hz:z.length=sz)(hx:cs=enc x)
  (S:St h0 h (d9 b cs T'::i4 enc sz T v xs::l)) (hroom:(xs.length+1)*bytes≤140737488355328) (h63:xs.length+1≤9223372036854775807)
  (hk:∀v' h',St h0 h' (i4 enc sz T v' (xs++ [x])::l)→K v' h'):a6V T sz bytes z v (.slice (some ⟨b,0,none⟩) 1 1) h K s t:=by
 refine tAp (ys:=[x]) hsz h0' hpl hz S.p1 rfl ?_ hroom h63 fun v' h' S'=>hk v' h' S'.p1.tl
 refine T0 rfl ?_
 rw[M3 S (by rw[hx,hsz];simp)]
 subst hx
 simp[hsz]
 exact a2E (by rw[hsz];exact x9 _)
theorem St.arr{A:Option Addr}{n c:Nat}(S:St h0 h (i4 enc sz T (.slice A n c) xs::l))(hsz:∀x,(enc x).length=sz):Arr enc sz h A xs:=(S.own.arr hsz).1
end
end
theorem Z8{P:Program}{Q:D6→Env→c9→Prop}{ρ:Env}{h0 h:c9}{L:List HP}{l:List j1}{s:Sch}{t1:Tag l}{t2:Tag s}{t3:Tag Q}{t4:Tag ρ}{t5:Tag h}(S:St h0 h L)(hw:T4 P (fun h'=>St h0 h' L) l (Q .normal) s ρ h):a8V P l s Q ρ h t1 t2 t3 t4 t5:=
 ⟨_,S,hw⟩
theorem c0h{h:c9}{F:c9→Option Value}{K:Value→Prop}{t:Tag K}:j8 (fun h'=>h'=h) F K t=D7 (F h) K ⟨⟩:=by
 apply propext
 constructor
 ·rintro⟨v,h1,h2⟩
  rw[h1 h rfl]
  exact h2
 ·intro h1
  obtain⟨v,h3,h2⟩:=H6 h1
  exact⟨v,fun h' e=>by rw[e];exact h3,h2⟩
theorem dE{P:Program}{Q:D6→Env→c9→Prop}{ρ:Env}{h:c9}{l:List j1}{s:Sch}{t1:Tag l}{t2:Tag s}{t3:Tag Q}{t4:Tag ρ}{t5:Tag h}(hw:T4 P (fun h'=>h'=h) l (Q .normal) s ρ h):a8V P l s Q ρ h t1 t2 t3 t4 t5:=
 ⟨fun h'=>h'=h,rfl,hw⟩
section
variable{P:Program}{ρ:Env}{h:c9}
theorem I9{α:Type}{x:Option α}{K K':α→Prop}(hk:∀v,K v→K' v)(hb:N7 x K):N7 x K':=by
 cases x with
 |none=>exact hb
 |some v=>exact hk v hb
theorem a5c{v:Value}{cs:List Value}{K K':c9→Prop}(hk:∀h,K h→K' h)(hw:wrW h v cs K):wrW h v cs K':=by
 unfold wrW at hw⊢
 split at hw
 ·split at hw
  ·exact⟨hw.1,hk _ hw.2⟩
  ·exact hw.elim
 ·exact hw.elim
theorem b8M{K K':Value→c9→Prop}(hk:∀v h,K v h→K' v h):∀{x:Eff},x.wp P ρ h K→x.wp P ρ h K'
 | .alloc ..,hw=>hk _ _ hw
 | .box ..,hw=>hk _ _ hw
 | .bslice ..,hw=>I9 (fun _=>hk _ _) hw
 | .store ..,hw=>⟨hw.1,a5c (fun _=>hk _ _) hw.2⟩
 | .append ..,hw=>by
  simp only[Eff.wp,a9Y]at hw⊢
  split at hw
  ·refine I9 (fun m hw=>I9 (fun new hw=> ?_) hw) hw
   split at hw
   ·rename_i hc
    rw[if_pos hc]
    split at hw
    ·split at hw
     ·rename_i hn;simp only[if_pos hn];exact hk _ _ hw
     ·rename_i hn;simp only[if_neg hn];exact a5c (fun _=>hk _ _) hw
    ·exact hk _ _ hw
   ·rename_i hc
    rw[if_neg hc]
    exact I9 (fun old hw=>⟨hw.1,hw.2.1,fun cap h1 h2=>hk _ _ (hw.2.2 cap h1 h2)⟩) hw
  ·exact hw.elim
 | .copy ..,hw=>by
  simp only[Eff.wp,a8R]at hw⊢
  split at hw
  ·refine I9 (fun m hw=>I9 (fun new hw=> ?_) hw) hw
   split at hw
   ·split at hw
    ·rename_i hn;simp only[if_pos hn];exact hk _ _ hw
    ·rename_i hn;simp only[if_neg hn];exact a5c (fun _=>hk _ _) hw
   ·exact hk _ _ hw
  ·exact hw.elim
 | .clear ..,hw=>by
  simp only[Eff.wp,a5i]at hw⊢
  split at hw
  ·split at hw
   ·split at hw
    ·rename_i hn;simp only[if_pos hn];exact hk _ _ hw
    ·rename_i hn;simp only[if_neg hn];exact a5c (fun _=>hk _ _) hw
   ·exact hk _ _ hw
  ·exact hw.elim
 | .s2b ..,hw=>by
  simp only[Eff.wp,c0u]at hw⊢
  split at hw
  ·exact⟨hw.1,fun cap h1 h2=>hk _ _ (hw.2 cap h1 h2)⟩
  ·exact hw.elim
 | .mkslice ..,hw=>by
  simp only[Eff.wp,mkW]at hw⊢
  split at hw
  ·exact⟨hw.1,hk _ _ hw.2⟩
  ·exact hw.elim
 | .call ..,hw=>d8.mono hw hk
 | .callv ..,hw=>by
  simp only[Eff.wp,a3J]at hw⊢
  split at hw
  ·exact⟨hw.1,d8.mono hw.2 hk⟩
  ·exact hw.elim
 | .any ..,hw=>fun w a h1 h2=>let⟨v,w',h3,h4,h5⟩:=hw w a h1 h2;⟨v,w',h3,h4,hk _ _ h5⟩
theorem a6x{K K':Value→c9→Prop}(hk:∀v h,K v h→K' v h):∀{x:MOp},x.wp P ρ h K→x.wp P ρ h K'
 | .p _,hw=>I9 (fun _=>hk _ _) hw
 | .r _,hw=>I9 (fun _=>hk _ _) hw
 | .e _,hw=>b8M hk hw
theorem V6{b:Bool}{X X' Y Y':Prop}(hx:X→X')(hy:Y→Y')(hg:M6 b X Y):M6 b X' Y':=by
 unfold M6 at hg⊢
 split at hg
 ·rename_i hb;rw[if_pos hb];exact hx hg
 ·rename_i hb;rw[if_neg hb];exact hy hg
theorem a7H{K K':Env→c9→Prop}(hk:∀ρ h,K ρ h→K' ρ h):∀{l:List j1}{ρ:Env}{h:c9},O2 P l K ρ h→O2 P l K' ρ h
 | [],_,_,hw=>hk _ _ hw
 |_::_,_,_,hw=>V6 (a6x fun _ _=>a7H hk) (a7H hk) hw
theorem a0C{S:c9→Prop}{ops:List j1}{K K':Env→c9→Prop}(hk:∀ρ h,K ρ h→K' ρ h):∀{s:Sch}{ρ:Env}{h:c9},I5 P S ops K s ρ h→I5 P S ops K' s ρ h
 | .done,_,_,hw=>hk _ _ hw
 | .no,_,_,_=>trivial
 | .bad,_,_,hw=>hw
 | .take i k,ρ,h,hw=>by
  simp only[I5]at hw⊢
  split at hw
  ·refine V6 (fun hw=> ?_) (a0C hk) hw
   split at hw
   ·exact I9 (fun _=>a0C hk) hw
   ·obtain⟨v,h1,h2⟩:=hw;exact⟨v,h1,a0C hk h2⟩
   ·exact hw.elim
  ·exact hw.elim
 | .alt i ns k more,ρ,h,hw=>by
  simp only[I5]at hw⊢
  refine⟨?_,a0C hk hw.2⟩
  have hw:=hw.1
  split at hw
  ·exact V6 (a6x fun _ _ h1=>⟨h1.1,a0C hk h1.2⟩) (a0C hk) hw
  ·exact hw.elim
theorem I3:∀{c:j6}{Q Q':D6→Env→c9→Prop} (_:∀e ρ h,Q e ρ h→Q' e ρ h) {ρ:Env}{h:c9},mwp P c Q ρ h→mwp P c Q' ρ h
 | .skip,_,_,hq,_,_,hw=>hq _ _ _ hw
 | .fail,_,_,_,_,_,hw=>hw
 | .raw _,_,_,_,_,_,hw=>hw
 | .ops _,_,_,hq,_,_,hw=>a7H (fun _ _=>hq _ _ _) hw
 | .draw _ _,_,_,hq,_,_,⟨S,h1,h2⟩=>⟨S,h1,a0C (fun _ _=>hq _ _ _) h2⟩
 | .seq a b,Q,Q',hq,ρ,h,hw=>by
  refine I3 (c:=a) (Q:=V0 (mwp P b Q) Q) (Q':=V0 (mwp P b Q') Q') (fun e ρ h hx=> ?_) hw
  cases e with
  |normal=>exact I3 (c:=b) hq hx
  |exit i=>exact hq _ _ _ hx
  |ret=>exact hq _ _ _ hx
 | .cond _ _ _,_,_,hq,ρ,h,hw=>by
  simp only[mwp,a0r]at hw⊢
  split at hw
  ·split at hw
   ·rename_i hb;rw[if_pos hb];exact I3 hq hw
   ·rename_i hb;rw[if_neg hb];exact I3 hq hw
  ·exact hw.elim
 | .block id c,Q,Q',hq,ρ,h,hw=>by
  refine I3 (c:=c) (Q:=a2N id Q) (Q':=a2N id Q') (fun e ρ h hx=> ?_) hw
  cases e with
  |normal=>exact hq _ _ _ hx
  |exit i=>
   by_cases hi:i=id
   ·simp only[a2N,if_pos hi]at hx⊢;exact hq _ _ _ hx
   ·simp only[a2N,if_neg hi]at hx⊢;exact hq _ _ _ hx
  |ret=>exact hq _ _ _ hx
 | .loop c,Q,Q',hq,_,_,⟨I,μ,h0,hr⟩=>⟨I,μ,h0,fun ρ h hi=>by
   refine I3 (c:=c) (Q:=V0 (fun ρ' h'=>I ρ' h'∧μ ρ' h'<μ ρ h) Q) (Q':=V0 (fun ρ' h'=>I ρ' h'∧μ ρ' h'<μ ρ h) Q') (fun e ρ h hx=> ?_) (hr ρ h hi)
   cases e with
   |normal=>exact hx
   |exit i=>exact hq _ _ _ hx
   |ret=>exact hq _ _ _ hx⟩
 | .exit _,_,_,hq,_,_,hw=>hq _ _ _ hw
 | .ret,_,_,hq,_,_,hw=>hq _ _ _ hw
end
def H1(P:Program)(c:j6)(Q:D6→Env→c9→Prop):Nat→Env→c9→Prop
 |0,_,_=>False
 |n+1,ρ,h=>mwp P c (V0 (H1 P c Q n) Q) ρ h
theorem c0Q{P:Program}{c:j6}{Q:D6→Env→c9→Prop}{n:Nat}{ρ:Env}{h:c9}:H1 P c Q (n+1) ρ h=mwp P c (V0 (H1 P c Q n) Q) ρ h:=rfl
theorem a9M{P:Program}{c:j6}{Q:D6→Env→c9→Prop}:∀{n:Nat}{ρ:Env}{h:c9},H1 P c Q n ρ h→H1 P c Q (n+1) ρ h
 |0,_,_,hw=>hw.elim
 |n+1,ρ,h,hw=>by
  refine I3 (c:=c) (Q:=V0 (H1 P c Q n) Q) (Q':=V0 (H1 P c Q (n+1)) Q) (fun e ρ h hx=> ?_) hw
  cases e with
  |normal=>exact a9M (n:=n) hx
  |exit i=>exact hx
  |ret=>exact hx
open Classical in
theorem B7{P:Program}{Q:D6→Env→c9→Prop}{ρ:Env}{h:c9}{c:j6}{t1:Tag c}{t2:Tag Q}{t3:Tag ρ}{t4:Tag h}(n:Nat)(hw:H1 P c Q n ρ h):a7B P c Q ρ h t1 t2 t3 t4:=by
 have least:∀(n:Nat) (ρ:Env) (h:c9),H1 P c Q n ρ h→∃m,m≤n∧H1 P c Q m ρ h∧∀k,k<m→¬H1 P c Q k ρ h:=by
  intro n
  induction n with
  |zero=>exact fun ρ h hw=>hw.elim
  |succ n ih=>
   intro ρ h hw
   by_cases h1:H1 P c Q n ρ h
   ·obtain⟨m,a,b,d⟩:=ih ρ h h1
    exact⟨m,by omega,b,d⟩
   ·refine⟨n+1,x9 _,hw,fun k hk hu=>h1 ?_⟩
    have:∀j,H1 P c Q (k+j) ρ h:=fun j=>by
     induction j with
     |zero=>exact hu
     |succ j ihj=>exact a9M ihj
    have:=this (n-k)
    rwa[show k+(n-k)=n by omega]at this
 let μ:Env→c9→Nat:=fun ρ h=>if hx:∃m,H1 P c Q m ρ h then(least hx.choose ρ h hx.choose_spec).choose else 0
 have hμ:∀ρ h m,H1 P c Q m ρ h→H1 P c Q (μ ρ h) ρ h∧μ ρ h≤m:=by
  intro ρ h m hm
  have hx:∃m,H1 P c Q m ρ h:=⟨m,hm⟩
  have hs:=(least hx.choose ρ h hx.choose_spec).choose_spec
  have e:μ ρ h=(least hx.choose ρ h hx.choose_spec).choose:=dif_pos hx
  rw[e]
  refine⟨hs.2.1,?_⟩
  rcases Nat.lt_or_ge m (least hx.choose ρ h hx.choose_spec).choose with h1|h1
  ·exact absurd hm (hs.2.2 m h1)
  ·exact h1
 refine⟨fun ρ h=>∃m,H1 P c Q m ρ h,μ,⟨n,hw⟩,fun ρ h ⟨m,hm⟩=> ?_⟩
 have h1:=hμ ρ h m hm
 revert h1
 generalize hk:μ ρ h=k
 intro h1
 cases k with
 |zero=>exact h1.1.elim
 |succ k=>
  refine I3 (fun e ρ' h' hx=> ?_) h1.1
  cases e with
  |normal=>exact⟨⟨k,hx⟩,by have:=(hμ ρ' h' k hx).2;omega⟩
  |exit i=>exact hx
  |ret=>exact hx
attribute [go_sem ↓] c3o c5s c1h c0Q
attribute [go_sem] c0h aN aC yC b9z b5f
section
variable{h0 h h':c9}{l l':List HP}{K:Value→c9→Prop}{s:Tag h}{t:Tag K}{T:Nat}{cs:List Value}
theorem St.fx{F:Prop}(S:St h0 h l)(e:All h l=F:=by((try simp only[aC,aN,yC,and_true]);exact rfl)):F:=e.mp S.all
theorem St.nm{L:List HP}(S:St h0 h l)(e:l=L:=by((try simp only[sC,sN,l_h,l_i,Nat.zero_add,Nat.reduceAdd,l_j,l_k]);exact rfl)):St h0 h L:=e▸S
theorem AL{mk:Nat→Value}{L:Nat→List HP}{F:Nat→c9→Prop}(hk:∀b h',St h0 h' (L b)→F b h'→K (mk b) h')(e:∀b,d9 b cs T::l=L b:=by(intro b;(try simp only[sC,sN,l_h,l_i,Nat.zero_add,Nat.reduceAdd,l_j,l_k]);exact rfl))(f:∀b h',All h' (L b)=F b h':=by(intro b h';(try simp only[aC,aN,yC,and_true]);exact rfl)):St h0 h l→a5g T cs mk h K s t:=
 fun S=>tA S fun b h' S=>hk b h' (e b▸S) ((f b h').mp (e b▸S).all)
theorem ST{n b off:Nat}{cs':List Value}{L:List HP}{F:c9→Prop}(hk:∀h',St h0 h' L→F h'→K undef h')(q:St h0 h l'→St h0 h (d9 b cs T::l):=by(intro S;first|exact S|exact S.p1|exact S.p2|exact S.p3|exact S.p4|exact S.p5|exact S.p6|exact S.p7|exact S.p8|exact S.p9|exact S.p10|exact S.p11))(hn:cs'.length=n:=by rfl)(hp:pC cs'=true:=by rfl)(hl:off+n≤cs.length:=by exact l_a rfl)(e:d9 b (v5 cs off cs') T::l=L:=by((try simp only[sC,sN,l_h,l_i,Nat.zero_add,Nat.reduceAdd,l_j,l_k]);exact rfl))(f:∀h',All h' L=F h':=by(intro h';(try simp only[aC,aN,yC,and_true]);exact rfl)):St h0 h l'→P8 n (.pointer (some ⟨b,off,none⟩)) cs' h K s t:=
 fun S=>tS (q S) hn hp hl fun h' S=>hk h' (e▸S) ((f h').mp (e▸S).all)
theorem cF{P:Program}{f:FuncId}{args:List Value}{x:Value}(S:St h0 h l)(hc:d8 P f args h fun v h'=>v=x∧Fr h h' [])(hk:∀h',St h0 h' l→K x h'):b1p P f args h K s t:=cI hc fun _ h' ⟨e1,e2⟩=>e1▸hk h' (S.frame e2)
theorem cV{P:Program}{f:FuncId}{args:List Value}{x:Value}(hc:d8 P f args h fun v h'=>v=x∧St h0 h' l)(hk:∀h',St h0 h' l→K x h'):b1p P f args h K s t:=cI hc fun _ h' ⟨e1,e2⟩=>e1▸hk h' e2
end
end
end Go.Proofs.YtjagmebglhbdkaaGreat.MX
