import Derived.Test.YtjagmebglhbdkaaGreatK21
import Derived.Test.YtjagmebglhbdkaaGreatK12
import Derived.Lib.Overlaps
namespace Go.Proofs.YtjagmebglhbdkaaGreat.MX
open Go Go.Proofs
set_option linter.unusedSimpArgs false
set_option linter.unusedVariables false
section
set_option maxHeartbeats 8000000
section
variable{h0 h:c9}{l:List HP}
theorem b5P{A:Option Addr}{n c:Nat}{xs:List Odr}(S:St h0 h l)(ha:Arr Odr.enc 5 h A xs)(hn:n=xs.length)(hl:xs.length<1000000000):
  d8 Tryz.prog 81 [.slice A n c] h fun v h'=>St h0 h' (i4 Odr.enc 5 86 v xs::l):=
 (Q0 (T:=86) (sz:=5) (bytes:=56) i81.2 Odr.enc_len (by omega) Odr.enc_plain rfl ha hn (a0q ha) (by omega) (by omega)).mono fun v h' ⟨ho,hf,_⟩=>S.ownNew hf ho
theorem b5O{A:Option Addr}{n c:Nat}{xs:List Lin}(S:St h0 h l)(ha:Arr Lin.enc 4 h A xs)(hn:n=xs.length)(hl:xs.length<1000000000):
  d8 Tryz.prog 82 [.slice A n c] h fun v h'=>St h0 h' (i4 Lin.enc 4 117 v xs::l):=
 (Q0 (T:=117) (sz:=4) (bytes:=32) i82.2 Lin.enc_len (by omega) Lin.enc_plain rfl ha hn (a0q ha) (by omega) (by omega)).mono fun v h' ⟨ho,hf,_⟩=>S.ownNew hf ho
theorem b5R{A:Option Addr}{n c:Nat}{xs:List Sup}(S:St h0 h l)(ha:Arr Sup.enc 3 h A xs)(hn:n=xs.length)(hl:xs.length<1000000000):
  d8 Tryz.prog 83 [.slice A n c] h fun v h'=>St h0 h' (i4 Sup.enc 3 119 v xs::l):=
 (Q0 (T:=119) (sz:=3) (bytes:=24) i83.2 Sup.enc_len (by omega) Sup.enc_plain rfl ha hn (a0q ha) (by omega) (by omega)).mono fun v h' ⟨ho,hf,_⟩=>S.ownNew hf ho
theorem b5Q{A:Option Addr}{n c:Nat}{xs:List Pol}(S:St h0 h l)(ha:Arr Pol.enc 16 h A xs)(hn:n=xs.length)(hl:xs.length<100000):
  d8 Tryz.prog 84 [.slice A n c] h fun v h'=>St h0 h' (i4 Pol.enc 16 83 v xs::l):=
 (Q0 (T:=83) (sz:=16) i84.2 Pol.enc_len (by omega) Pol.enc_plain rfl ha hn (a0q ha) (by omega) (by omega)).mono fun v h' ⟨ho,hf,_⟩=>S.ownNew hf ho
theorem b6b(C:Cfg)(r:∀h',St h0 h' l→C.rd h')(l1:C.os.length<100000)(l2:C.ss.length<100000)(l3:C.ps.length<100000)(l4:∀o∈C.os,o.ls.length<100000)(S:St h0 h l):
  d8 Tryz.prog 40 [.agg C.enc.toArray] h fun v h'=>∃D:Cfg,v= .agg D.enc.toArray∧D.wf∧D.pu=C.pu∧St h0 h' (i4 Odr.enc 5 86 (.slice D.A1 D.os.length D.c1) D.os::i4 Sup.enc 3 119 (.slice D.A2 D.ss.length D.c2) D.ss::i4 Pol.enc 16 83 (.slice D.A3 D.ps.length D.c3) D.ps::(D.os.map b1X++l)):=by
 refine EN i40.eq_1 fun K hK=>Wa ?_
 (revert S;(try clear F);refine AL fun g h S F=> ?_)
 refine Wa ?_
 (revert S;(try clear F);refine AL fun p h S F=> ?_)
 refine Wc F @Cfg.enc.eq_1 ?_
 refine cI (b5P S (r _ S.tl.tl).os rfl (by omega)) ?_
 clear S F
 intro v h S
 obtain⟨A1,c1,rfl⟩:=S.sl
 refine Wa ?_
 refine tS S.p2 rfl rfl (l_a rfl) ?_
 clear S
 intro h S
 rw[Cfg.enc]at S
 replace S:=S.nm
 ((try clear F);have F:=S.fx)
 refine Wb F ?_
 refine lI (fun ρ h'=>ρ 1= .pointer (some ⟨g,0,none⟩)∧ρ 2= .pointer (some ⟨p,0,none⟩)∧ρ 10= .int .i64 C.os.length∧∃(i:Nat) (ys:List Odr),ρ 11= .int .i64 i∧i≤C.os.length∧ys.length=i∧ys.map Odr.pu=(C.os.take i).map Odr.pu∧
  St h0 h' (d9 g [.slice A1 C.os.length c1,.slice C.A2 C.ss.length C.c2,.slice C.A3 C.ps.length C.c3] 26::i4 Odr.enc 5 86 (.slice A1 C.os.length c1) (ys++C.os.drop i)::d9 p [.slice none 0 0,.slice none 0 0,.slice none 0 0] 26::(ys.map b1X++l))) (fun ρ _=>C.os.length-(iv (ρ 11)).toNat) ?_ ?_
 ·refine Wa ?_
  exact⟨0,[],rfl,by omega,rfl,rfl,S⟩
 clear S F
 rintro ρ h J hJ ⟨e1,e2,e10,i,ys,e11,hi,hyl,hyp,S⟩
 refine Wc e10 e11 ?_
 refine cD (fun hlt=> ?_) (fun hlt=> ?_)
 ·have hil:i<C.os.length:=by omega
  have hmem:=l_v hil
  obtain⟨b,rfl⟩:=S.p1.ownAt (by rw[l_m,M2];omega)
  have hwl:i<(ys++C.os.drop i).length:=by rw[l_m,M2];omega
  have hget:(ys++C.os.drop i)[i]'hwl=C.os[i]:=by
   rw[List.getElem_append_right (by omega)]
   simp[hyl]
  have hel:=u2 Odr.enc_len S.p1 (i:=i) (j:=1) hwl (by omega)
  rw[hget]at hel
  have hg0:=m8 (off:=0) S
  simp only[l_o]at hg0
  have hrl:=(r _ S.tl.tl.tl.dropL).ls _ hmem
  have hl4:=l4 _ hmem
  have hset:∀y:Odr,(ys++C.os.drop i).set i y=(ys++ [y])++C.os.drop (i+1):=fun y=>by
   rw[a6l _ _ (by omega),hyl,Nat.sub_self,X8 hil,l_h,l_q]
   rfl
  have htk:(C.os.take (i+1)).map Odr.pu=(C.os.take i).map Odr.pu++ [C.os[i].pu]:=by rw[l_t hil,L7];rfl
  generalize C.os[i]=o at*
  simp only[Odr.enc,l_p,l_o]at hel
  have hI:(fun h'=>rd1 h' (.pointer (some ⟨g,0,none⟩))=some (.slice (some ⟨b,0,none⟩) C.os.length c1)∧rd1 h' (.pointer (some ⟨b,i*5+1,none⟩))=some (.slice o.A o.ls.length o.c)) h:=⟨hg0,hel⟩
  have rx:∀K t,j8 (fun h'=>rd1 h' (.pointer (some ⟨g,0,none⟩))=some (.slice (some ⟨b,0,none⟩) C.os.length c1)∧rd1 h' (.pointer (some ⟨b,i*5+1,none⟩))=some (.slice o.A o.ls.length o.c)) (fun h'=>rd1 h' (.pointer (some ⟨g,0,none⟩))) K t=K (.slice (some ⟨b,0,none⟩) C.os.length c1):=fun K t=>rI (fun h' hh=>hh.1) h hI
  have ry:∀K t,j8 (fun h'=>rd1 h' (.pointer (some ⟨g,0,none⟩))=some (.slice (some ⟨b,0,none⟩) C.os.length c1)∧rd1 h' (.pointer (some ⟨b,i*5+1,none⟩))=some (.slice o.A o.ls.length o.c)) (fun h'=>rd1 h' (.pointer (some ⟨b,i*5+1,none⟩))) K t=K (.slice o.A o.ls.length o.c):=fun K t=>rI (fun h' hh=>hh.2) h hI
  refine Wa ?_
  refine dI (fun h'=>rd1 h' (.pointer (some ⟨g,0,none⟩))=some (.slice (some ⟨b,0,none⟩) C.os.length c1)∧rd1 h' (.pointer (some ⟨b,i*5+1,none⟩))=some (.slice o.A o.ls.length o.c)) hI ?_
  refine We e1 e11 rx ry ?_
  refine cI (b5O S hrl rfl (by omega)) ?_
  clear S rx ry hI hel hg0 hrl
  intro v h S
  obtain⟨A',c',rfl⟩:=S.sl
  have hel:=u2 Odr.enc_len S.p2 (i:=i) (j:=1) hwl (by omega)
  rw[hget]at hel
  simp only[Odr.enc,l_p,l_o]at hel
  refine⟨⟨m8 (off:=0) S.p1,hel⟩,?_⟩
  refine Wa ?_
  refine G8 Odr.enc_len (i:=i) (j:=1) (x:={o with A:=A',c:=c'}) S.p2 hwl (by omega) (l_a rfl) rfl rfl (by rw[hget];rfl) ?_
  clear S hel
  intro h S
  rw[hset]at S
  refine Wb e11 ?_
  refine hJ _ _ ?_ ?_
  ·refine Wd e1 e2 e10 ?_
   refine⟨i+1,ys++ [{o with A:=A',c:=c'}],rfl,by omega,by rw[l_m,hyl];rfl,by rw[htk,L7,hyp];rfl,?_⟩
   rw[L7,l_q (ys.map b1X)]
   have S:St h0 h (_::_::_::b1X {o with A:=A',c:=c'}::(ys.map b1X++l)):=S.p2.p2.p3.p3.p3
   exact S.perm (.cons _ (.cons _ (.cons _ List.perm_middle.symm)))
  ·refine Wb e11 ?_
   omega
 obtain rfl:i=C.os.length:=by omega
 rw[C9]at hyp
 rw[List.drop_length,D9]at S
 clear hJ
 have hg1:=m8 (off:=1) S
 have hg2:=m8 (off:=2) S
 simp only[l_p,l_o]at hg1 hg2
 have hrr:=r _ S.tl.tl.tl.dropL
 have hI:(fun h'=>rd1 h' (.pointer (some ⟨g,1,none⟩))=some (.slice C.A2 C.ss.length C.c2)∧rd1 h' (.pointer (some ⟨g,2,none⟩))=some (.slice C.A3 C.ps.length C.c3)) h:=⟨hg1,hg2⟩
 have rx:∀K t,j8 (fun h'=>rd1 h' (.pointer (some ⟨g,1,none⟩))=some (.slice C.A2 C.ss.length C.c2)∧rd1 h' (.pointer (some ⟨g,2,none⟩))=some (.slice C.A3 C.ps.length C.c3)) (fun h'=>rd1 h' (.pointer (some ⟨g,1,none⟩))) K t=K (.slice C.A2 C.ss.length C.c2):=fun K t=>rI (fun h' hh=>hh.1) h hI
 have ry:∀K t,j8 (fun h'=>rd1 h' (.pointer (some ⟨g,1,none⟩))=some (.slice C.A2 C.ss.length C.c2)∧rd1 h' (.pointer (some ⟨g,2,none⟩))=some (.slice C.A3 C.ps.length C.c3)) (fun h'=>rd1 h' (.pointer (some ⟨g,2,none⟩))) K t=K (.slice C.A3 C.ps.length C.c3):=fun K t=>rI (fun h' hh=>hh.2) h hI
 refine Wa ?_
 refine dI (fun h'=>rd1 h' (.pointer (some ⟨g,1,none⟩))=some (.slice C.A2 C.ss.length C.c2)∧rd1 h' (.pointer (some ⟨g,2,none⟩))=some (.slice C.A3 C.ps.length C.c3)) hI ?_
 refine Wd e1 rx ry ?_
 refine cI (b5R S hrr.ss rfl (by omega)) ?_
 clear S rx ry hI hg1 hg2 hrr
 intro v h S
 obtain⟨A2,c2,rfl⟩:=S.sl
 refine⟨⟨m8 (off:=1) S.p1,m8 (off:=2) S.p1⟩,?_⟩
 have hrr:=r _ S.tl.tl.tl.tl.dropL
 refine Wb e1 ?_
 refine cI (b5Q S hrr.ps rfl (by omega)) ?_
 clear S hrr
 intro v h S
 obtain⟨A3,c3,rfl⟩:=S.sl
 refine Wa ?_
 refine tS S.p2 rfl rfl (l_a rfl) ?_
 clear S
 intro h S
 replace S:=S.nm
 refine Wb e1 ?_
 refine tS S rfl rfl (l_a rfl) ?_
 clear S
 intro h S
 replace S:=S.nm
 ((try clear F);have F:=S.fx)
 refine Wd e1 F e2 ?_
 refine tS S.p4 rfl rfl (l_a rfl) ?_
 clear S F
 intro h S
 replace S:=S.nm
 ((try clear F);have F:=S.fx)
 refine Wc e2 F ?_
 obtain⟨D,hD⟩:∃D:Cfg,D=⟨A1,c1,ys,A2,c2,C.ss,A3,c3,C.ps⟩:=⟨_,rfl⟩
 refine hK _ _ ⟨D,?_,?_,?_,?_⟩
 ·rw[hD,Cfg.enc,hyl]
 ·have S:=S.tl.tl
  have R:=b2x (L:=[_,_,_]) S
  obtain⟨_,x1,x2⟩:=S.cap
  obtain⟨_,y1,y2⟩:=S.p1.cap
  obtain⟨_,z1,z2⟩:=S.p2.cap
  subst hD
  exact⟨by simp only[hyl];exact z1,z2,y1,y2,x1,x2,fun o ho=>(R o ho).2⟩
 ·rw[hD]
  simp only[Cfg.pu,hyp]
 ·rw[hD]
  simp only[hyl]
  exact S.tl.tl.p1.p2
end
end
section
def V4{α:Type}(enc:α→List Value)(sz T:Nat)(h:c9)(v:Value)(xs:List α):Prop:=
 (v= .slice none 0 0∧xs=[])∨
 ∃b cap pre cs post,v= .slice (some ⟨b,pre.length,none⟩) xs.length cap∧xs.length≤cap∧cap<9223372036854775808∧blk h b=some (pre++((xs.flatMap enc++cs)++post),T,(0,0))∧(xs.flatMap enc++cs).length=cap*sz
section
variable{α:Type}{enc:α→List Value}{sz T:Nat}{h h':c9}{v:Value}{xs:List α}
theorem Own.toO{base:Nat}(ho:Own enc sz T base h v xs):V4 enc sz T h v xs:=by
 rcases ho with ho|⟨b,cap,cs,hv,_,h1,h2,h3,h4⟩
 ·exact .inl ho
 ·exact .inr ⟨b,cap,[],cs,[],hv,h1,h2,by simpa using h3,h4⟩
theorem V4.lt(ho:V4 enc sz T h v xs):∀b∈i9 v,b<h.size:=by
 rcases ho with⟨rfl,_⟩|⟨b,cap,pre,cs,post,rfl,_,_,hb,_⟩
 ·intro b hb;cases hb
 ·intro b' hb'
  simp only[i9,U1]at hb'
  subst hb'
  exact F5 hb
theorem V4.keep(ho:V4 enc sz T h v xs)(hk:∀b∈i9 v,blk h' b=blk h b):V4 enc sz T h' v xs:=by
 rcases ho with ho|⟨b,cap,pre,cs,post,rfl,h1,h2,hb,h4⟩
 ·exact .inl ho
 ·exact .inr ⟨b,cap,pre,cs,post,rfl,h1,h2,by rw[hk b (by simp[i9])];exact hb,h4⟩
theorem V4.slice(ho:V4 enc sz T h v xs):∃A c,v= .slice A xs.length c:=by
 rcases ho with⟨rfl,rfl⟩|⟨b,cap,pre,cs,post,rfl,_⟩
 ·exact⟨_,_,rfl⟩
 ·exact⟨_,_,rfl⟩
theorem V4.arr(hsz:∀x,(enc x).length=sz){A:Option Addr}{n c:Nat}(ho:V4 enc sz T h (.slice A n c) xs):Arr enc sz h A xs∧n=xs.length∧n≤c∧c<9223372036854775808:=by
 rcases ho with⟨hv,rfl⟩|⟨b,cap,pre,cs,post,hv,h1,h2,hb,h4⟩
 ·injection hv with e1 e2 e3
  subst e1 e2 e3
  exact⟨fun i hi=>by simp at hi,rfl,x9 _,by decide⟩
 ·injection hv with e1 e2 e3
  subst e1 e2 e3
  refine⟨fun i hi=>⟨b,pre.length,rfl,?_⟩,rfl,h1,h2⟩
  have hfl:=fL hsz xs
  have hm:i*sz+sz≤xs.length*sz:=by
   have:=a1n sz (show i+1≤xs.length from hi)
   rwa[Nat.succ_mul]at this
  rw[v8 hb (by simp only[l_m];omega)]
  congr 1
  rw[l_q (xs.flatMap enc) cs post,List.drop_append,List.drop_of_length_le (by omega),l_k,Nat.add_sub_cancel_left]
  exact a4x hsz xs (cs++post) i hi
def a6n(enc:α→List Value)(sz T:Nat)(v:Value)(xs:List α):HP where
 P h B:=B=i9 v∧V4 enc sz T h v xs
 loc:=fun⟨e,ho⟩ hk=>⟨e,ho.keep fun b hb=>by simp only[blk,hk b (e▸hb)]⟩
 lt:=fun⟨e,ho⟩ b hm=>ho.lt b (e▸hm)
variable{h0:c9}{l:List HP}{v':Value}{xs':List α}
theorem St.off(S:St h0 h (a6n enc sz T v xs::l)):V4 enc sz T h v xs:=by
 obtain⟨B,hp,_⟩:=S.hd
 exact hp.2
theorem St.offSl(S:St h0 h (a6n enc sz T v xs::l)):∃A c,v= .slice A xs.length c:=S.off.slice
theorem St.offArr{A:Option Addr}{n c:Nat}(S:St h0 h (a6n enc sz T (.slice A n c) xs::l))(hsz:∀x,(enc x).length=sz):Arr enc sz h A xs:=(S.off.arr hsz).1
theorem St.offUp(S:St h0 h (a6n enc sz T v xs::l))(hf:Fr h h' (i9 v))(ho:V4 enc sz T h' v' xs')(hb:∀b∈i9 v',b∈i9 v∨h.size≤b):St h0 h' (a6n enc sz T v' xs'::l):=by
 obtain⟨B,hp,_,hk⟩:=S.hd
 obtain⟨rfl,_⟩:=hp
 exact hk _ _ _ hf ⟨rfl,ho⟩ hb
theorem St.toOff(S:St h0 h (i4 enc sz T v xs::l)):St h0 h (a6n enc sz T v xs::l):=by
 obtain⟨B,hp,_,hk⟩:=S.hd
 obtain⟨rfl,ho⟩:=hp
 exact hk h _ (i9 v) (Fr.refl _ _) ⟨rfl,ho.toO⟩ (fun b hb=> .inl hb)
theorem St.nilO(S:St h0 h l):St h0 h (a6n enc sz T (.slice none 0 0) []::l):=S.nilS.toOff
theorem a0D(pre X post vs:List Value){off k:Nat}(ho:off=pre.length+k)(hk:k+vs.length≤X.length):v5 (pre++(X++post)) off vs=pre++(v5 X k vs++post):=by
 have e1:pre++(X++post)=(pre++X.take k)++(X.drop k++post):=by
  conv=>lhs;rw[←G0 k X]
  simp only[l_q]
 have hl:(X.take k).length=k:=by rw[x4];omega
 have e2:v5 X k vs=X.take k++vs++(X.drop k).drop vs.length:=by
  conv=>lhs;rw[←G0 k X]
  exact v6 _ _ [] k hl.symm vs (by rw[M2];omega)
 rw[e1,v6 _ _ [] off (by rw[l_m,hl];exact ho) vs (by rw[l_m,M2];omega),List.drop_append_of_le_length (by rw[M2];omega),e2]
 simp only[l_q]
theorem a8L{b off:Nat}(ha:Arr enc sz h (some ⟨b,off,none⟩) xs)(n:Nat):Arr enc sz h (some ⟨b,off+n*sz,none⟩) (xs.drop n):=by
 intro i hi
 rw[M2]at hi
 obtain⟨b',off',e,hr⟩:=ha (n+i) (by omega)
 cases e
 refine⟨b,_,rfl,?_⟩
 rw[List.getElem_drop]
 rw[show off+n*sz+i*sz=off+(n+i)*sz by rw[R8];omega]
 exact hr
theorem b6k{A:Option Addr}(ha:Arr enc sz h A xs)(n:Nat):Arr enc sz h A (xs.take n):=by
 intro i hi
 obtain⟨b,off,hA,hr⟩:=ha i (by simp at hi;omega)
 exact⟨b,off,hA,by rw[hr,List.getElem_take]⟩
theorem V4.pop(hsz:∀x,(enc x).length=sz){x:α}{A:Option Addr}{n c:Nat}(ho:V4 enc sz T h (.slice A n c) (x::xs)):
  ∃A' c',a1F A sz 1 n c c=some (.slice A' xs.length c')∧V4 enc sz T h (.slice A' xs.length c') xs∧i9 (.slice A' xs.length c')=i9 (.slice A n c):=by
 rcases ho with⟨_,hv⟩|⟨b,cap,pre,cs,post,hv,h1,h2,hb,h4⟩
 ·cases hv
 injection hv with e1 e2 e3
 subst e1 e2 e3
 simp only[l_f]at h1⊢
 unfold a1F
 rw[if_pos ⟨by omega,by omega,by omega,by omega⟩]
 have hl:(((xs.length+1:Nat):Int)-1).toNat=xs.length:=by omega
 rw[X9,l_q,l_q,←l_q pre]at hb
 rw[X9,l_q,l_m,hsz]at h4
 by_cases e:(c:Int)=1
 ·rw[if_pos e,hl]
  obtain rfl:c=1:=by omega
  have hx0:xs=[]:=a7w (by omega)
  subst hx0
  refine⟨_,0,rfl,.inr ⟨b,0,pre,[],enc x++(([]:List α).flatMap enc++(cs++post)),rfl,x9 _,by decide,?_,by simp⟩,rfl⟩
  rw[hb]
  simp
 ·rw[if_neg e,hl,Option.map_some,P9,show((1:Int).toNat*sz)=sz by simp]
  refine⟨_,c-1,by rw[show((c:Int)-1).toNat=c-1 by omega],.inr ⟨b,c-1,pre++enc x,cs,post,?_,by omega,by omega,?_,?_⟩,rfl⟩
  ·rw[l_m,hsz]
  ·rw[hb,l_q (xs.flatMap enc)]
  ·rw[Nat.sub_mul]
   omega
end
end
section
section
variable{P:Program}{α:Type}{enc:α→List Value}{T sz bytes:Nat}{z:List Value}{h:c9}{A:Option Addr}{n c:Nat}{xs:List α}
theorem b3j{f:FuncId}(hc:a1j P f=some (X7 T sz bytes z))(hsz:∀x,(enc x).length=sz)(h0:0<sz)(hpl:∀x,pC (enc x)=true)(hz:z.length=sz)(hzp:∀n,pC (n8 z n)=true)
  {v:Value} (ho:V4 enc sz T h v xs) {i j:Nat} (hij:i≤j) (hj:j≤xs.length) (hroom:xs.length<1000000000):
  d8 P f [v,.int .i64 i,.int .i64 j] h fun v' h'=>V4 enc sz T h' v' (xs.take i++xs.drop j)∧Fr h h' (i9 v)∧∀b∈i9 v',b∈i9 v:=by
 have ho0:=ho
 rcases ho with⟨rfl,rfl⟩|⟨b,cap,pre,cs,post,rfl,hle,h63',hblk,hl⟩
 ·simp only[l_g,Nat.le_zero]at hj
  subst hj
  obtain rfl:i=0:=by omega
  refine eK hc (l_a rfl) fun K hK=> ?_
  refine Xb @X7.eq_1 ?_
  exact hK _ _ ⟨.inl ⟨rfl,rfl⟩,Fr.refl _ _,fun b hb=>hb⟩
 ·refine eK hc (l_a rfl) fun K hK=> ?_
  by_cases hi0:(i:Int)<xs.length
  case neg=>
   obtain rfl:i=xs.length:=by omega
   obtain rfl:j=xs.length:=by omega
   refine Xb @X7.eq_1 ?_
   exact hK _ _ ⟨by rw[G0];exact ho0,Fr.refl _ _,fun b hb=>hb⟩
  refine Xb @X7.eq_1 ?_
  (generalize hg:dcd _=bb;cases bb<;>(first|replace hg:=y7 hg|replace hg:=s7 hg)<;>(try simp(disch:=first|omega|assumption|((repeat' (first|exact Fr.refl _ _|assumption|(refine Fr.via (by assumption) ?_ (by intro i hi hm;first|exact hm|exact l_l _ hm|exact absurd hm l_d|(simp only[l_e,l_y,l_d,or_false]at hm⊢;omega)))|refine Fr.push ?_ _|(refine Fr.setM ?_ ?_ _; · first|exact l_n|(simp only[l_e,true_or,or_true];done))|(refine Fr.setN ?_ ?_ _; · first|omega|(simp only[l_c,l_b];omega))));done)|(simp only[l_c,l_b,l_f,l_g,l_e,l_d,or_false,false_or,U9,not_or];done)|(simp only[l_c,l_b,l_f,l_g,l_e,l_d,or_false,false_or,not_or];omega)) only[go_sem,↓wBk,↓eA,↓eB,↓eS,sT,simprocAttr]))
  ·have hlt:i<j:=by omega
   have ha:=(ho0.arr hsz).1
   have hlen:∀k,k≤xs.length→((xs.take k).flatMap enc).length=k*sz:=fun k hk=>by rw[fL hsz,x4,Nat.min_eq_left hk]
   have hdl:∀k,((xs.drop k).flatMap enc).length=(xs.length-k)*sz:=fun k=>by rw[fL hsz,M2]
   have hxl:(xs.flatMap enc).length=xs.length*sz:=fL hsz xs
   have hmj:j*sz+(xs.length-j)*sz=xs.length*sz:=by rw[←R8];congr 1;omega
   have hmi:i*sz+(xs.length-j)*sz=(i+(xs.length-j))*sz:=(R8 _ _ _).symm
   have hcap:xs.length*sz≤cap*sz:=a1n _ hle
   have hnew:(i+(xs.length-j))*sz+(j-i)*sz=xs.length*sz:=by rw[←R8];congr 1;omega
   have hwl:(pre++((xs.flatMap enc++cs)++post)).length=pre.length+cap*sz+post.length:=by rw[l_m,l_m,hl];omega
   have hsrc:∀a c',(a=some ⟨b,pre.length+j*sz,none⟩∨xs.length-j=0)→x7 h sz (xs.length-j) (.slice a (xs.length-j) c')=some ((xs.drop j).flatMap enc):=by
    intro a c' hac
    rcases hac with rfl|hac
    ·have:=E9 (n:=xs.length-j) (c:=c') hsz (a8L ha j) (by rw[M2])
     rwa[M2]at this
    ·have:xs.drop j=[]:=List.drop_eq_nil_of_le (by omega)
     rw[hac,this]
     cases a<;>simp[x7]
   have hcells:v5 (xs.flatMap enc++cs) (i*sz) ((xs.drop j).flatMap enc)=((xs.take i++xs.drop j).flatMap enc)++(((xs.drop i).flatMap enc++cs).drop ((xs.length-j)*sz)):=by
    rw[R5 enc xs i,l_q,v6 _ _ [] _ (by rw[hlen i (by omega)]) _ (by rw[hdl j,l_m,hdl i];have:(xs.length-j)*sz≤(xs.length-i)*sz:=a1n _ (by omega);omega),a1p,hdl j]
   have hzl:(n8 z (j-i)).length=(j-i)*sz:=by rw[B9,hz]
   have hres:∀h2,blk h2 b=some (v5 (v5 (pre++((xs.flatMap enc++cs)++post)) (pre.length+i*sz) ((xs.drop j).flatMap enc)) (pre.length+(i+(xs.length-j))*sz) (n8 z (j-i)),T,(0,0))→V4 enc sz T h2 (.slice (some ⟨b,pre.length,none⟩) (i+(xs.length-j)) cap) (xs.take i++xs.drop j):=by
    intro h2 hb2
    have hl2:(xs.take i++xs.drop j).length=i+(xs.length-j):=by simp;omega
    have hf2:((xs.take i++xs.drop j).flatMap enc).length=(i+(xs.length-j))*sz:=by rw[fL hsz,hl2]
    have hrest:(((xs.drop i).flatMap enc++cs).drop ((xs.length-j)*sz)).length+(i+(xs.length-j))*sz=cap*sz:=by
     have h1:=congrArg List.length hcells
     rw[J5,hl,l_m,hf2]at h1
     omega
    rw[a0D pre (xs.flatMap enc++cs) post _ rfl (by rw[hdl j,hl];omega),hcells,a0D pre _ post _ rfl (by rw[l_m,hf2,hzl];omega),←hf2,v6 _ _ [] _ rfl _ (by rw[hzl];omega),l_q ((xs.take i++xs.drop j).flatMap enc)]at hb2
    refine .inr ⟨b,cap,pre,_,post,by rw[hl2],by rw[hl2];omega,h63',hb2,?_⟩
    rw[l_m,hf2,l_m,hzl,M2]
    omega
   refine a1G [b] ?_
   by_cases hjc:j<cap
   ·refine Xa ?_
    refine a4j (n:=i) (m:=xs.length-j) (c:=cap) (off:=pre.length) (new:=(xs.drop j).flatMap enc) rfl (hsrc _ _ (.inl rfl)) (by omega) hblk (by rw[hwl,hdl j];omega) (x9 _) (R4 hpl _) ?_
    intro h1 hb1 hf1 hs1
    have e:xs.length-(i+(xs.length-j))=j-i:=by omega
    refine Xc hf1 e ?_
    refine a1h hb1 (by rw[J5,hwl,hzl];omega) (x9 _) (hzp _) ?_
    intro h2 hb2 hf2 hs2
    refine Xa ?_
    exact hK _ _ ⟨hres _ hb2,hf1.trans hf2,fun b hb=>hb⟩
   ·obtain rfl:j=cap:=by omega
    obtain rfl:xs.length=j:=by omega
    refine Xa ?_
    have hm0:xs.length-xs.length=0:=by omega
    rw[hm0]at hsrc hres hcells hnew hmi
    refine a4j (n:=i) (m:=0) (c:=xs.length) (off:=pre.length) (new:=(xs.drop xs.length).flatMap enc) rfl (hsrc _ _ (.inr rfl)) (by omega) hblk (by rw[hwl,hdl];omega) (x9 _) (R4 hpl _) ?_
    intro h1 hb1 hf1 hs1
    refine Xb hf1 ?_
    refine a1h hb1 (by rw[J5,hwl,hzl];omega) (x9 _) (hzp _) ?_
    intro h2 hb2 hf2 hs2
    refine Xa ?_
    exact hK _ _ ⟨hres _ hb2,hf1.trans hf2,fun b hb=>hb⟩
  ·have:i=j:=by omega
   subst this
   exact hK _ _ ⟨by rw[G0];exact ho0,Fr.refl _ _,fun b hb=>hb⟩
set_option maxHeartbeats 4000000 in
theorem b1h{o:Oper}{cl:Call}{S U e p q:Nat}(ho:o.op= .call cl)(hcl:cl.callee= .builtin .append)(hx:cl.args= #[.tmp p,.tmp q])(ht:cl.argTypes= #[S,U])
  (hu:P.underlying S=some (.slice e)) (hU:P.underlying U=some (.int .i64)) (hs:G6 P e=some sz) (hb:T6 P e=some bytes) (hz:Y7 P e=some z) (hl:z.length=sz∧0<sz∧0<bytes)
  {ρ:Env}{K:Value→c9→Prop}{s1:Tag ρ}{s2:Tag h}{s3:Tag K}{base:Option Addr}{n c m:Nat}{old:List Value} (hp:ρ p= .slice base n c) (hq:ρ q= .int .i64 m) (hm:0<m) (hgt:c<n+m) (hroom:(n+m)*bytes≤140737488355328) (h63:n+m≤9223372036854775807)
  (hold:x7 h sz n (.slice base n c)=some old)
  (hk:∀cap,n+m≤cap→cap<9223372036854775808→K (.slice (some ⟨h.size,0,none⟩) (n+m) cap) (h.push (.cells (old++n8 z m++n8 z (cap-(n+m))).toArray e (0,0)))):b6i P o ρ h K s1 s2 s3:=by
 intro w a hw hops
 subst hw
 have hops':∀t,t∈[p,q]→a.eval (.tmp t)=ρ t:=fun t ht=>hops (.tmp t) (by rw[ho];simp only[Op.operands,Call.operands,hcl,hx];simp at ht⊢;rcases ht with rfl|rfl<;>simp)
 have h1:=hops' p (by simp)
 have h2:=hops' q (by simp)
 rw[hp]at h1
 rw[hq]at h2
 obtain⟨i,hi,hib⟩:∃i,P.info? e=some i∧i.bytes=bytes:=by
  unfold T6 at hb
  split at hb
  ·rename_i i hi;cases hb;exact⟨i,hi,rfl⟩
  ·cases hb
 have hti:∀w,(typeInfo e).run P w= .ok i w:=fun w=>by simp[typeInfo,hi]
 obtain⟨rfl,hz0,hb0⟩:=hl
 obtain⟨zv,hzr,hzc⟩:=T2 hz w.drew
 have hfit:Builtin.nextslicecap (n+m) c*i.bytes≤281474976710656:=growslice_fits (need:=n+m) (old:=c) (bytes:=i.bytes) (by omega) (by rw[hib];exact hroom)
 have hcap:∀t,n+m≤(Question.appendCap (n+m) c e).cut t∧(Question.appendCap (n+m) c e).cut t<9223372036854775808:=fun t=>by
  simp only[Question.cut]
  have:t% (9223372036854775808-(n+m))<9223372036854775808-(n+m):=Nat.mod_lt _ (by omega)
  constructor
  ·exact Nat.le_add_right _ _
  ·show n+m+t% (2^63-(n+m))<9223372036854775808
   have e:(2:Nat)^63=9223372036854775808:=by decide
   rw[e];omega
 obtain⟨hc1,hc2⟩:=hcap (w.tape w.drawn (Question.appendCap (n+m) c e))
 have hkk:=hk _ hc1 hc2
 generalize hcp:(Question.appendCap (n+m) c e).cut (w.tape w.drawn (Question.appendCap (n+m) c e))=cap at hkk
 refine⟨_,w.drew.alloc (.cells (old++n8 z m++n8 z (cap-(n+m))).toArray e (0,0)),.inl ?_,⟨rfl,rfl,rfl⟩,hkk⟩
 have hf1:(Builtin.firstCells z.length n (Value.slice base n c)).run P w.drew= .ok old.toArray w.drew:=O9 (by rw[a1d];exact hold)
 have hnle:¬(n+m≤c):=by omega
 have hzs:=a0b z hz0 (cap-(n+m))
 have hzm:=a0b z hz0 m
 have hnf:¬(281474976710656<Builtin.nextslicecap (n+m) c*i.bytes):=by omega
 have hib0:i.bytes≠0:=by omega
 have hwm:IntKind.i64.wrap (m:Int)=m:=u5 (by omega) (by omega)
 have hm0:¬((m:Int)<0):=by omega
 have hmb:¬((m:Int)*i.bytes>281474976710656):=by
  have:(m:Int)*i.bytes≤((n+m)*i.bytes:Nat):=by
   rw[Int.natCast_mul]
   exact Int.mul_le_mul_of_nonneg_right (by omega) (by omega)
  rw[hib]at this⊢
  omega
 have hmz:¬(m*z.length=0):=by
  intro h0
  rcases Nat.mul_eq_zero.1 h0 with h0|h0<;>omega
 have hn63:¬((n+m:Nat):Int)>IntKind.i64.max:=by
  show ¬((n+m:Nat):Int)>9223372036854775807
  omega
 have hmi:¬(m=0∨z=[]):=by
  rintro(h0|h0)
  ·omega
  ·rw[h0]at hz0;simp at hz0
 simp[execOp,ho,resolve,hcl,hx,invoke,builtin,Builtin.append_,ht,l6 hu,l6 hU,h1,h2,v4 hs,hnle,hti,hib0,hnf,Question.forced,hcp,hf1,hzr,hzc,hzs,hzm,newRow,hwm,hm0,hmb,hmz,hn63,hmi,asInt,asIntOf]
 all_goals(intro h0;omega)
theorem a9X{o:Oper}{cl:Call}{f:FuncId}{fn:Func}{S R e p q:Nat}(ho:o.op= .call cl)(hcl:cl.callee= .value (.func f))(hx:cl.args= #[.tmp p,.tmp q])
  (hf : P.funcs[f]? = some fn) (hnm : (fn.name == "runtime.NumGoroutine") = false) (hbd : fn.body.isNone = true) (hn : Extern.findNext fn = none) (he : Extern.find fn = some (Extern.SlicesOverlaps.overlaps #[S, S] #[R]))
  (hu:P.underlying S=some (.slice e)) (hs:G6 P e=some sz)
  {ρ:Env}{K:Value→c9→Prop}{s1:Tag ρ}{s2:Tag h}{s3:Tag K}{a b oa ob la ca lb cb Ta Tb:Nat}{ka kb:List Value} (hp:ρ p= .slice (some ⟨a,oa,none⟩) la ca) (hq:ρ q= .slice (some ⟨b,ob,none⟩) lb cb)
  (hne:a≠b) (hba:blk h a=some (ka,Ta,(0,0))) (hbb:blk h b=some (kb,Tb,(0,0))) (hkb:kb≠[]) (hk:K (.bool false) h):b6i P o ρ h K s1 s2 s3:=by
 intro w ac hw hops
 subst hw
 have hops':∀t,t∈[p,q]→ac.eval (.tmp t)=ρ t:=fun t ht=>hops (.tmp t) (by rw[ho];simp only[Op.operands,Call.operands,hcl,hx];simp at ht⊢;rcases ht with rfl|rfl<;>simp)
 have h1:=hops' p (by simp)
 have h2:=hops' q (by simp)
 have h3:ac.eval (.func f)= .func (.func f) #[] #[]:=hops (.func f) (by rw[ho];simp[Op.operands,Call.operands,hcl,hx])
 rw[hp]at h1
 rw[hq]at h2
 have cell:∀{b:Nat}{k:List Value}{T:Nat},blk w.heap b=some (k,T,(0,0))→w.heap[b]? =some (.cells k.toArray T (0,0)):=by
  intro b k T hb
  unfold blk at hb
  split at hb
  ·rename_i c' e' f' hc
   injection hb with hb
   injection hb with h1 h2
   injection h2 with h2 h3
   rw[hc,←h1,h2,h3]
  ·cases hb
 have hca:=cell hba
 have hcb:=cell hbb
 have hsz:∀w,(Go.sizeOf e).run P w= .ok sz w:=v4 hs
 have hr:=Go.Lib.run_overlaps_apart w S R e hu sz hsz ⟨a,oa,none⟩ ⟨b,ob,none⟩ la ca lb cb hne Ta Tb ka.length kb.length (by simp[World.shape?,hca]) (by simp[World.shape?,hcb]) (by simpa using hkb) (by simp[World.frozen?,hca]) (by simp[World.frozen?,hca])
 have hcf:=run_callFunc_extern hf hnm hbd hn he #[.slice (some ⟨a,oa,none⟩) la ca,.slice (some ⟨b,ob,none⟩) lb cb] w
 rw[hr]at hcf
 refine⟨_,w,.inl ?_,⟨rfl,rfl,rfl⟩,hk⟩
 simp[execOp,ho,resolve,hcl,hx,Deferred.ofValue,invoke,h1,h2,h3,hcf]
theorem a4q{b off n c m e:Nat}{f:Nat×Nat}{cells new:List Value}{y:Value}{K:Value→c9→Prop}{s:Tag h}{t:Tag K}(hm:W8 y=some m)(hc:x7 h sz (min m n) y=some new)(hb:blk h b=some (cells,e,f))
  (hl:off+new.length≤cells.length) (hf:f.2≤f.1) (hp:pC new=true) (hk:∀h',blk h' b=some (v5 cells off new,e,f)→Fr h h' [b]→h'.size=h.size→K (.int .i64 (min m n:Nat)) h'):
  b8B sz (.slice (some ⟨b,off,none⟩) n c) y h K s t:=by
 simp only[b8B,a8R,N7,hm,hc]
 split
 ·rename_i hn
  subst hn
  exact hk h hb (Fr.refl _ _) rfl
 ·simp only[wrW,hb]
  exact⟨⟨hl,.inl hf,hp⟩,hk _ (L2 (F5 hb)) ((Fr.refl _ _).set (.inl (by simp)) _) (by simp)⟩
theorem c1A(hsz:∀x,(enc x).length=sz)(h0:0<sz)(hpl:∀x,pC (enc x)=true)(hz:z.length=sz){v y:Value}{ys:List α}{K:Value→c9→Prop}{s:Tag h}{t:Tag K}
  (ho:V4 enc sz T h v xs) (hm:W8 y=some ys.length) (hc:x7 h sz ys.length y=some (ys.flatMap enc)) (hroom:(xs.length+ys.length)*bytes≤140737488355328) (h63:xs.length+ys.length≤9223372036854775807)
  (hk:∀v' h',V4 enc sz T h' v' (xs++ys)→Fr h h' (i9 v)→(∀b∈i9 v',b∈i9 v∨h.size≤b)→K v' h'):a6V T sz bytes z v y h K s t:=by
 have ho0:=ho
 rcases ho with⟨rfl,rfl⟩|⟨b,cap,pre,cs,post,rfl,hle,h63',hblk,hl⟩
 ·exact a1B hsz h0 hpl hz (base:=0) (xs:=[]) (.inl ⟨rfl,rfl⟩) (Nat.zero_le _) hm hc hroom h63 fun v' h' ho' hf hb=>hk v' h' ho'.toO hf hb
 have hlen:(xs.flatMap enc).length=xs.length*sz:=fL hsz xs
 have hleny:(ys.flatMap enc).length=ys.length*sz:=fL hsz ys
 by_cases hfit:xs.length+ys.length≤cap
 ·have hmul:(xs.length+ys.length)*sz≤cap*sz:=a1n _ hfit
  rw[R8]at hmul
  have hcs:ys.length*sz≤cs.length:=by
   rw[l_m,hlen]at hl
   omega
  refine a4j hm hc hfit hblk (by simp only[l_m]at hl⊢;omega) (x9 _) (R4 hpl _) ?_
  intro h' hb' hf hs
  rw[a0D pre _ post _ rfl (by rw[hl];omega),v6 _ _ [] _ hlen.symm _ (by omega),←a1p]at hb'
  refine hk _ _ (.inr ⟨b,cap,pre,_,post,by rw[l_m],by rw[l_m];exact hfit,h63',hb',?_⟩) hf fun b' hb'=> .inl hb'
  rw[l_m,a1p,l_m,M2,hlen,hleny]
  rw[l_m,hlen]at hl
  omega
 ·have ha:=(ho0.arr hsz).1
  simp only[a6V,a9Y,N7,hm,hc,if_neg hfit,E9 hsz ha rfl]
  refine⟨hroom,h63,fun cap' hc1 hc2=> ?_⟩
  refine hk _ _ (.inr ⟨h.size,cap',[],n8 z (cap'-(xs.length+ys.length)),[],by simp,by rw[l_m];exact hc1,hc2,?_,?_⟩) ((Fr.refl _ _).push _) (fun b hb=> .inr ?_)
  ·rw[a1p,l_k,D9]
   exact C7 rfl
  ·rw[a1p,l_m,l_m,hlen,hleny,B9,hz,←R8,←R8]
   congr 1
   omega
  ·simp only[i9,U1]at hb
   omega
end
end
end Go.Proofs.YtjagmebglhbdkaaGreat.MX
